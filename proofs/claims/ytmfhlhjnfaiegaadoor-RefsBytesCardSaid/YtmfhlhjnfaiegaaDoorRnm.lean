/- The reference's Name tells whether a ref may be so named: nameB. Condition: the text is shorter than 2^30. -/
import Derived.Test.YtmfhlhjnfaiegaaDoorRefR
import Derived.Test.YtmfhlhjnfaiegaaDoorStr
namespace Go.Proofs.YtmfhlhjnfaiegaaDoor
open Go.RowKit
set_option maxRecDepth 100000
set_option maxHeartbeats 4000000
set_option linter.unusedVariables false
theorem okC_yes {c : UInt8} (h : okC c = true) : (97 ≤ c.toNat ∧ c.toNat ≤ 122) ∨ (65 ≤ c.toNat ∧ c.toNat ≤ 90) ∨ (48 ≤ c.toNat ∧ c.toNat ≤ 57) ∨ c.toNat = 46 ∨ c.toNat = 95 ∨ c.toNat = 45 := by
  have : ∀ c : UInt8, okC c = true → (97 ≤ c.toNat ∧ c.toNat ≤ 122) ∨ (65 ≤ c.toNat ∧ c.toNat ≤ 90) ∨ (48 ≤ c.toNat ∧ c.toNat ≤ 57) ∨ c.toNat = 46 ∨ c.toNat = 95 ∨ c.toNat = 45 :=
    u8_all (by decide +kernel)
  exact this c h
theorem okC_not {c : UInt8} (h : okC c = false) : c.toNat ≤ 44 ∨ c.toNat = 47 ∨ (58 ≤ c.toNat ∧ c.toNat ≤ 64) ∨ (91 ≤ c.toNat ∧ c.toNat ≤ 94) ∨ c.toNat = 96 ∨ 123 ≤ c.toNat := by
  have : ∀ c : UInt8, okC c = false → c.toNat ≤ 44 ∨ c.toNat = 47 ∨ (58 ≤ c.toNat ∧ c.toNat ≤ 64) ∨ (91 ≤ c.toNat ∧ c.toNat ≤ 94) ∨ c.toNat = 96 ∨ 123 ≤ c.toNat :=
    u8_all (by decide +kernel)
  exact this c h
/-- where the reference's Name stands -/
def NmI (s : List UInt8) (i : Nat) (p : List UInt8) : Prop := ∃ q, sp 47 (s.take i) = q ++ [p] ∧ q.all okP = true ∧ p.all okC = true
theorem NmI.start (s : List UInt8) : NmI s 0 [] := ⟨[], by simp [sp], rfl, rfl⟩
theorem okP_of {p : List UInt8} (h : p.all okC = true) (hw : okW p = true) : okP p = true := by unfold okP; rw [hw, h]; rfl
theorem NmI.slash {s : List UInt8} {i : Nat} {p : List UInt8} (h : NmI s i p) (hi : i < s.length) (hc : s[i] = 47) (hw : okW p = true) : NmI s (i + 1) [] := by
  obtain ⟨q, h1, h2, h3⟩ := h
  refine ⟨q ++ [p], ?_, by simp [List.all_append, h2, okP_of h3 hw], rfl⟩
  rw [List.take_succ_eq_append_getElem hi, hc, sp_snoc_c, h1]
theorem NmI.sign {s : List UInt8} {i : Nat} {p : List UInt8} (h : NmI s i p) (hi : i < s.length) (hc : s[i] ≠ 47) (hk : okC s[i] = true) : NmI s (i + 1) (p ++ [s[i]]) := by
  obtain ⟨q, h1, h2, h3⟩ := h
  refine ⟨q, ?_, h2, by simp [List.all_append, h3, hk]⟩
  rw [List.take_succ_eq_append_getElem hi, sp_snoc_x hc, h1]
  simp [addL]
theorem NmI.end_ {s : List UInt8} {p : List UInt8} (h : NmI s s.length p) (hl : s.length ≤ 100) : nameB s = okW p := by
  obtain ⟨q, h1, h2, h3⟩ := h
  rw [List.take_length] at h1
  unfold nameB
  rw [h1, decide_eq_true hl, List.all_append, h2]
  simp [okP, h3]
theorem NmI.stop {s : List UInt8} {i : Nat} {p : List UInt8} (h : NmI s i p) (hi : i < s.length) (hc : s[i] = 47) (hw : okW p = false) : nameB s = false := by
  obtain ⟨q, h1, h2, h3⟩ := h
  have e : s = s.take i ++ 47 :: s.drop (i + 1) := by rw [← hc, List.getElem_cons_drop, List.take_append_drop]
  unfold nameB
  rw [e, sp_pre, h1]
  simp [okP, hw]
theorem name_bad {s : List UInt8} {i : Nat} (hi : i < s.length) (hc : s[i] ≠ 47) (hk : okC s[i] = false) : nameB s = false := by
  cases h : nameB s with
  | false => rfl
  | true =>
    rcases name_sign h (List.getElem_mem hi) with e | e
    · exact absurd e hc
    · rw [hk] at e; cases e
theorem nameR_any (s : List UInt8) (hs : s.length ≤ 1073741824) (w : World) : Calls Tryd.prog 14 #[.string (bstr s)] w fun e w' => e = .returned (.bool (nameB s)) ∧ w = w' := by
  have ssz : (bstr s).size = s.length := by show s.toArray.size = _; simp
  obtain ⟨n, hn⟩ : ∃ n, n = s.length := ⟨_, rfl⟩
  have HN := Lib.hid hn
  rw [← hn] at hs
  by_cases h0 : s = []
  · subst h0
    go_enter Tryd.func14, Tryd.ntmps14
    go_wp2
    go_ret
    exact ⟨by rw [name_nil]; rfl, rfl⟩
  · have h0' : s.isEmpty = false := by simpa using h0
    by_cases h100 : 100 < n
    · have hb : nameB s = false := by unfold nameB; rw [decide_eq_false (by omega)]; rfl
      have HB := Lib.hid hb
      have hss : 100 < s.length := by omega
      clear hb hn
      go_enter Tryd.func14, Tryd.ntmps14
      go_wp2
      go_ret
      exact ⟨by rw [HB.out]; rfl, rfl⟩
    · have hss : s.length ≤ 100 := by omega
      clear hn
      go_enter Tryd.func14, Tryd.ntmps14
      go_wp2
      go_loopw [3, 4] (fun t3 t4 wr => ∃ (i : Nat) (p : List UInt8), t4 = .int .i64 (i : Int) ∧ t3 = .string (bstr p) ∧ i ≤ s.length + 1 ∧ p.length ≤ i ∧ Hid (i ≤ s.length → NmI s i p) ∧ Hid (i = s.length + 1 → nameB s = true) ∧ wr = w) (fun _ t4 _ => (s.length + 1 - intOf t4).toNat)
      case atStart => exact ⟨0, [], rfl, rfl, by omega, by simp, Lib.hid (fun _ => NmI.start s), Lib.hid (fun h => by omega), rfl⟩
      case round =>
        obtain ⟨i, p, rfl, rfl, hi, hpl, HI, HE, rfl⟩ := hrel
        by_cases hil : i < s.length
        · obtain ⟨c, hc⟩ : ∃ c, c = s[i] := ⟨_, rfl⟩
          have hcl := c.toNat_lt
          have hin := idx_str s i hil wr
          rw [← hc] at hin
          have hle : i ≤ s.length := by omega
          have hi2 : ((i : Int) == (s.length : Int)) = false := by simp; omega
          by_cases h47 : c = 47
          · have hcv : ((c.toNat : Int) == 47) = true := by rw [h47]; rfl
            cases hw : okW p with
            | true =>
              have HI2 := Lib.hid (NmI.slash (HI.out hle) hil (by rw [← hc]; exact h47) hw)
              have e1 : p.isEmpty = false := by
                unfold okW at hw
                cases p with
                | nil => simp at hw
                | cons => rfl
              have e2 : (p == [46]) = false := by unfold okW at hw; simp at hw ⊢; exact hw.1.2
              have e3 : (p == [46, 46]) = false := by unfold okW at hw; simp at hw ⊢; exact hw.2
              clear hw HI HE h47 hc
              go_wp2
              go_roundw
              case rel => exact ⟨i + 1, [], by simp, rfl, by omega, by simp, Lib.hid (fun _ => HI2.out), Lib.hid (fun h => by omega), trivial⟩
              case measure => simp only [intOf]; omega
            | false =>
              have HB := Lib.hid (NmI.stop (HI.out hle) hil (by rw [← hc]; exact h47) hw)
              have hp : p = [] ∨ p = [46] ∨ p = [46, 46] := by
                by_cases q1 : p = []
                · exact .inl q1
                · by_cases q2 : p = [46]
                  · exact .inr (.inl q2)
                  · by_cases q3 : p = [46, 46]
                    · exact .inr (.inr q3)
                    · unfold okW at hw
                      simp [q1, q2, q3] at hw
              clear hw HI HE h47 hc
              rcases hp with rfl | rfl | rfl
              · go_wp2
                go_ret
                exact ⟨by rw [HB.out]; rfl, rfl⟩
              · go_wp2
                go_ret
                exact ⟨by rw [HB.out]; rfl, rfl⟩
              · go_wp2
                go_ret
                exact ⟨by rw [HB.out]; rfl, rfl⟩
          · have hcv : ((c.toNat : Int) == 47) = false := by
              simp only [beq_eq_false_iff_ne, ne_eq]
              intro e
              exact h47 (UInt8.toNat_inj.1 (by show c.toNat = 47; omega))
            have hcn : c.toNat ≠ 47 := fun e => h47 (UInt8.toNat_inj.1 (by show c.toNat = 47; omega))
            cases hk : okC c with
            | true =>
              have hsl := fun w => str_lh s i (i + 1) (by omega) (by omega) w
              have hone : (s.drop i).take (i + 1 - i) = [c] := by
                rw [Nat.add_sub_cancel_left, List.drop_eq_getElem_cons hil, ← hc]; rfl
              rw [hone] at hsl
              have hsl2 : ∀ w, (Instr.slice 9 (.string (bstr s)) (some (.int .i64 (i : Int))) (some (.int .i64 ((i : Int) + 1))) none).run Tryd.prog w = .ok (.string (bstr [c])) w := fun w => by
                have := hsl w
                rwa [Int.natCast_add] at this
              have hadd : (bstr p ++ bstr [c] : ByteArray) = bstr (p ++ [c]) := bstr_app p [c]
              have HI2 := Lib.hid (NmI.sign (HI.out hle) hil (by rw [← hc]; exact h47) (by rw [← hc]; exact hk))
              have HADD := Lib.hid hadd; have HC := Lib.hid hc
              have cs := okC_yes hk
              clear hsl hone hadd hk HI HE h47 hc
              rcases cs with ⟨c1, c2⟩ | ⟨c1, c2⟩ | ⟨c1, c2⟩ | c1 | c1 | c1
              · go_wp2
                go_roundw
                case rel => exact ⟨i + 1, p ++ [c], by simp, by rw [HADD.out], by omega, by simp; omega, Lib.hid (fun _ => by rw [HC.out]; exact HI2.out), Lib.hid (fun h => by omega), trivial⟩
                case measure => simp only [intOf]; omega
              · go_wp2
                go_roundw
                case rel => exact ⟨i + 1, p ++ [c], by simp, by rw [HADD.out], by omega, by simp; omega, Lib.hid (fun _ => by rw [HC.out]; exact HI2.out), Lib.hid (fun h => by omega), trivial⟩
                case measure => simp only [intOf]; omega
              · go_wp2
                go_roundw
                case rel => exact ⟨i + 1, p ++ [c], by simp, by rw [HADD.out], by omega, by simp; omega, Lib.hid (fun _ => by rw [HC.out]; exact HI2.out), Lib.hid (fun h => by omega), trivial⟩
                case measure => simp only [intOf]; omega
              · go_wp2
                go_roundw
                case rel => exact ⟨i + 1, p ++ [c], by simp, by rw [HADD.out], by omega, by simp; omega, Lib.hid (fun _ => by rw [HC.out]; exact HI2.out), Lib.hid (fun h => by omega), trivial⟩
                case measure => simp only [intOf]; omega
              · go_wp2
                go_roundw
                case rel => exact ⟨i + 1, p ++ [c], by simp, by rw [HADD.out], by omega, by simp; omega, Lib.hid (fun _ => by rw [HC.out]; exact HI2.out), Lib.hid (fun h => by omega), trivial⟩
                case measure => simp only [intOf]; omega
              · go_wp2
                go_roundw
                case rel => exact ⟨i + 1, p ++ [c], by simp, by rw [HADD.out], by omega, by simp; omega, Lib.hid (fun _ => by rw [HC.out]; exact HI2.out), Lib.hid (fun h => by omega), trivial⟩
                case measure => simp only [intOf]; omega
            | false =>
              have HB := Lib.hid (name_bad hil (by rw [← hc]; exact h47) (by rw [← hc]; exact hk))
              have cs := okC_not hk
              have d46 : ((c.toNat : Int) == 46) = false := by simp only [beq_eq_false_iff_ne, ne_eq]; omega
              have d95 : ((c.toNat : Int) == 95) = false := by simp only [beq_eq_false_iff_ne, ne_eq]; omega
              have d45 : ((c.toNat : Int) == 45) = false := by simp only [beq_eq_false_iff_ne, ne_eq]; omega
              clear hk HI HE h47 hc
              rcases cs with c1 | c1 | ⟨c1, c2⟩ | ⟨c1, c2⟩ | c1 | c1
              rotate_left
              · exact absurd c1 hcn
              rotate_right
              · go_wp2
                go_ret
                exact ⟨by rw [HB.out]; rfl, rfl⟩
              · have h57 : decide ((c.toNat : Int) ≤ 57) = false := decide_eq_false (by omega)
                go_wp2
                go_ret
                exact ⟨by rw [HB.out]; rfl, rfl⟩
              · have h57 : decide ((c.toNat : Int) ≤ 57) = false := decide_eq_false (by omega)
                have h90 : decide ((c.toNat : Int) ≤ 90) = false := decide_eq_false (by omega)
                go_wp2
                go_ret
                exact ⟨by rw [HB.out]; rfl, rfl⟩
              · go_wp2
                go_ret
                exact ⟨by rw [HB.out]; rfl, rfl⟩
              · have h57 : decide ((c.toNat : Int) ≤ 57) = false := decide_eq_false (by omega)
                have h90 : decide ((c.toNat : Int) ≤ 90) = false := decide_eq_false (by omega)
                have h122 : decide ((c.toNat : Int) ≤ 122) = false := decide_eq_false (by omega)
                go_wp2
                go_ret
                exact ⟨by rw [HB.out]; rfl, rfl⟩
        · by_cases hie : i = s.length
          · have HNI := Lib.hid (HI.out (by omega))
            have hi2 : ((i : Int) == (s.length : Int)) = true := by rw [hie]; exact beq_self_eq_true _
            have hni : NmI s s.length p := by have := HNI.out; rwa [hie] at this
            have hok := NmI.end_ hni hss
            cases hw : okW p with
            | true =>
              rw [hw] at hok
              have HB := Lib.hid hok
              have e1 : p.isEmpty = false := by
                unfold okW at hw
                cases p with
                | nil => simp at hw
                | cons => rfl
              have e2 : (p == [46]) = false := by unfold okW at hw; simp at hw ⊢; exact hw.1.2
              have e3 : (p == [46, 46]) = false := by unfold okW at hw; simp at hw ⊢; exact hw.2
              clear hw HI HE hok hni HNI
              go_wp2
              go_roundw
              case rel => exact ⟨i + 1, [], by rw [hie]; simp, rfl, by omega, by simp, Lib.hid (fun h => by omega), Lib.hid (fun _ => HB.out), trivial⟩
              case measure => simp only [intOf]; omega
            | false =>
              rw [hw] at hok
              have HB := Lib.hid hok
              have hp : p = [] ∨ p = [46] ∨ p = [46, 46] := by
                by_cases q1 : p = []
                · exact .inl q1
                · by_cases q2 : p = [46]
                  · exact .inr (.inl q2)
                  · by_cases q3 : p = [46, 46]
                    · exact .inr (.inr q3)
                    · unfold okW at hw
                      simp [q1, q2, q3] at hw
              clear hw HI HE hok hni HNI
              rcases hp with rfl | rfl | rfl
              · go_wp2
                go_ret
                exact ⟨by rw [HB.out]; rfl, rfl⟩
              · go_wp2
                go_ret
                exact ⟨by rw [HB.out]; rfl, rfl⟩
              · go_wp2
                go_ret
                exact ⟨by rw [HB.out]; rfl, rfl⟩
          · have HB := Lib.hid (HE.out (by omega))
            have hgt : decide ((i : Int) ≤ (s.length : Int)) = false := decide_eq_false (by omega)
            clear HI HE
            go_wp2
            go_ret
            exact ⟨by rw [HB.out]; rfl, rfl⟩
end Go.Proofs.YtmfhlhjnfaiegaaDoor
