/- partialInsertionSort over a value with Less and Swap. Conditions: the row's length is at most 2^40, the places lie in it. -/
import Derived.Test.YtjiiploleinobaaSrtA
import Derived.Deep.DeepCutAuto
namespace Go.Proofs.Ytjiiploleinobaa
open Go.RowKit
open Go.Sort (swp scanSorted shiftDown shiftUp partialIns partialInsertionSort)
set_option maxRecDepth 100000
set_option maxHeartbeats 8000000
set_option linter.unusedVariables false
section
variable {α : Type} [Inhabited α] {S : Value} {lt : α → α → Bool} {n g : Nat} {H : World → Array α → Prop}
theorem sorted_go (d : Array α) (b i : Nat) (h : i < b) (hl : lt d[i]! d[i - 1]! = false) : scanSorted lt d b i = scanSorted lt d b (i + 1) := by
  rw [scanSorted, if_pos (by simp [h, hl])]
theorem sorted_end (d : Array α) (b i : Nat) (h : ¬ i < b ∨ lt d[i]! d[i - 1]! = true) : scanSorted lt d b i = i := by
  rw [scanSorted, if_neg (by rcases h with h | h <;> simp [h])]
theorem partial_any (X : Srt S lt n g H) (hn : n ≤ 1099511627776) (d : Array α) (a b : Nat) (hab : a < b) (hb : b ≤ n) (w : World) (h : H w d) (hd : d.size = n) (d' : Array α) (q0 : Bool) (ho : partialInsertionSort lt d a b = (d', q0)) :
    Calls Try.prog 54 #[.iface 64 S, .int .i64 (a : Int), .int .i64 (b : Int)] w fun e w' => e = .returned (.bool q0) ∧ St H g n w w' d' := by
  have mS : ∀ (w : World), (method 213 64 S "Less").run Try.prog w = .ok (81, S) w := fun w => by kernel_rfl
  have mT : ∀ (w : World), (method 213 64 S "Swap").run Try.prog w = .ok (82, S) w := fun w => by kernel_rfl
  have cS := less_calls S
  have cT := swap_calls S
  have st0 := St.start (g := g) (n := n) w d h hd
  unfold partialInsertionSort at ho
  have HO := Lib.hid ho
  clear ho h hd
  go_enter Try.func54, Try.ntmps54
  go_wp2
  go_loopw [7, 8] (fun t7 t8 wr => ∃ (i s : Nat) (D : Array α), t7 = .int .i64 (i : Int) ∧ t8 = .int .i64 (5 - (s : Int)) ∧ s ≤ 5 ∧ a < i ∧ i ≤ b ∧ Hid (partialIns lt a b s i D = (d', q0)) ∧ St H g n w wr D) (fun _ t8 _ => (5 - intOf t8).toNat)
  case atStart => exact ⟨a + 1, 5, d, by simp, by simp, by omega, by omega, by omega, HO, st0⟩
  case round =>
    clear st0 HO
    obtain ⟨i, s, D, rfl, rfl, hs, hi1, hi2, HL, hst⟩ := hrel
    cases s with
    | zero =>
      have E := HL.out
      rw [partialIns] at E
      injection E with E1 E2
      subst E1 E2
      go_wp2
      go_ret
      exact ⟨rfl, hst⟩
    | succ s =>
      obtain ⟨c, hc⟩ : ∃ c : Int, c = (5 : Int) - ((s + 1 : Nat) : Int) := ⟨_, rfl⟩
      rw [← hc]
      have z0 : c < 5 := by omega
      have z1 : -100 ≤ c := by omega
      have HC := Lib.hid hc
      clear hc
      go_upto_block 2 with (fail)
      go_cut [7] (fun tv wx => ∃ x : Nat, tv = .int .i64 (x : Int) ∧ i ≤ x ∧ x ≤ b ∧ Hid (scanSorted lt D b i = x) ∧ St H g n w wx D)
      case first =>
        go_wp2_with fail
        go_loopw [7] (fun tv wr => ∃ x : Nat, tv = .int .i64 (x : Int) ∧ i ≤ x ∧ x ≤ b ∧ Hid (scanSorted lt D b x = scanSorted lt D b i) ∧ St H g n w wr D) (fun tv _ => ((b : Int) - intOf tv).toNat)
        case atStart => exact ⟨i, rfl, Nat.le_refl _, hi2, Lib.hid rfl, hst⟩
        case round =>
          clear hst
          obtain ⟨x, rfl, hx1, hx2, hF, hst⟩ := hrel
          by_cases hxb : x < b
          · obtain ⟨q, hq⟩ : ∃ q, lt D[x]! D[x - 1]! = q := ⟨_, rfl⟩
            have k1 := hst.lessI X (x : Int) ((x : Int) - 1) x (x - 1) rfl (by omega) (by omega) (by omega) q hq
            have HQ := Lib.hid hq
            clear hq
            cases q with
            | false =>
              go_wp2_with (go_at_call 81; (with_reducible refine k1.mono ?_); rintro e wn ⟨rfl, hstn⟩)
              go_roundw
              case rel => exact ⟨x + 1, by simp, by omega, by omega, Lib.hid (by have e := hF.out; rw [sorted_go _ _ _ hxb HQ.out] at e; exact e), hstn⟩
              case measure => simp only [intOf]; omega
            | true =>
              go_wp2_with (go_at_call 81; (with_reducible refine k1.mono ?_); rintro e wn ⟨rfl, hstn⟩)
              go_meet
              case rel => exact ⟨x, rfl, hx1, hx2, Lib.hid (by rw [← hF.out, sorted_end _ _ _ (.inr HQ.out)]), hstn⟩
          · go_wp2
            go_meet
            case rel => exact ⟨x, rfl, hx1, hx2, Lib.hid (by rw [← hF.out, sorted_end _ _ _ (.inl hxb)]), hst⟩
      case rest =>
      clear hst
      obtain ⟨x, rfl, hx1, hx2, xH, hst⟩ := hcut
      have E := HL.out
      rw [partialIns] at E
      simp only [xH.out] at E
      by_cases hxb : x = b
      · subst hxb
        rw [if_pos rfl] at E
        injection E with E1 E2
        subst E1 E2
        clear HL xH
        go_wp2
        go_ret
        exact ⟨rfl, hst⟩
      rw [if_neg hxb] at E
      have nxb : ¬ (x : Int) = (b : Int) := by omega
      have nxb2 : ((x : Int) == (b : Int)) = false := beq_eq_false_iff_ne.2 nxb
      by_cases h50 : b - a < 50
      · rw [if_pos h50] at E
        injection E with E1 E2
        subst E1 E2
        have z50 : (b : Int) - a < 50 := by omega
        clear HL xH hxb
        go_wp2
        go_ret
        exact ⟨rfl, hst⟩
      rw [if_neg h50] at E
      have z50 : ¬ (b : Int) - a < 50 := by omega
      have HE := Lib.hid E
      clear E HL xH hxb
      have k2 := hst.swapI X (x : Int) ((x : Int) - 1) x (x - 1) rfl (by omega) (by omega) (by omega)
      obtain ⟨D1, hD1⟩ : ∃ D1, D1 = swp D x (x - 1) := ⟨_, rfl⟩
      rw [← hD1] at k2
      have H1 := Lib.hid hD1
      clear hD1 hst
      go_upto_if 45 with (go_at_call 82; (with_reducible refine k2.mono ?_); rintro e w2 ⟨rfl, hst⟩)
      go_cut [9] (fun tv wx => ∃ D2 : Array α, Hid (D2 = if x - a ≥ 2 then shiftDown lt (x - 1) D1 else D1) ∧ St H g n w wx D2)
      case first =>
        by_cases h2 : 2 ≤ x - a
        · have z2 : (2 : Int) ≤ (x : Int) - a := by omega
          simp only [decide_eq_true z2]
          go_wp2
          go_loopw [9] (fun tv wr => ∃ (j : Nat) (D2 : Array α), tv = .int .i64 (j : Int) ∧ j < x ∧ Hid (shiftDown lt j D2 = shiftDown lt (x - 1) D1) ∧ St H g n w wr D2) (fun tv _ => (intOf tv).toNat)
          case atStart => exact ⟨x - 1, D1, by congr 1; omega, by omega, Lib.hid rfl, hst⟩
          case round =>
            clear hst
            obtain ⟨j, D2, rfl, hj, hF, hst⟩ := hrel
            cases j with
            | zero =>
              go_wp2
              go_meet
              case rel => exact ⟨D2, Lib.hid (by rw [if_pos h2, ← hF.out]; rfl), hst⟩
            | succ j =>
              obtain ⟨q, hq⟩ : ∃ q, lt D2[j + 1]! D2[j]! = q := ⟨_, rfl⟩
              obtain ⟨z, hz⟩ : ∃ z : Int, z = ((j + 1 : Nat) : Int) := ⟨_, rfl⟩
              rw [← hz]
              have z3 : 1 ≤ z := by omega
              have z4 : z < n := by omega
              have k1 := hst.lessI X z (z - 1) (j + 1) j hz (by omega) (by omega) (by omega) q hq
              have F := hF.out
              rw [shiftDown, hq] at F
              have HF := Lib.hid F
              have HZ := Lib.hid hz
              clear hq hF F
              cases q with
              | false =>
                clear hz
                go_wp2_with (go_at_call 81; (with_reducible refine k1.mono ?_); rintro e wn ⟨rfl, hstn⟩)
                go_meet
                case rel => exact ⟨D2, Lib.hid (by rw [if_pos h2, ← HF.out]; rfl), hstn⟩
              | true =>
                clear hz
                go_wp2_with (first
                  | (go_at_call 81; (with_reducible refine k1.mono ?_); rintro e wn ⟨rfl, hstn⟩
                     have k5 := hstn.swapI X z (z - 1) (j + 1) j HZ.out (by have := HZ.out; omega) (by omega) (by omega))
                  | (go_at_call 82; (with_reducible refine k5.mono ?_); rintro e wm ⟨rfl, hstm⟩))
                go_roundw
                case rel => exact ⟨j, _, by congr 1; have := HZ.out; omega, by omega, Lib.hid (by have e := HF.out; simpa using e), hstm⟩
                case measure => have := HZ.out; simp only [intOf]; omega
        · have z2 : ¬ (2 : Int) ≤ (x : Int) - a := by omega
          simp only [decide_eq_false z2]
          go_wp2
          go_meet
          case rel => exact ⟨D1, Lib.hid (by rw [if_neg h2]), hst⟩
      case rest =>
      clear hst
      obtain ⟨D2, H2, hst⟩ := hcut
      go_upto_if 66 with (fail)
      by_cases h2 : 2 ≤ b - x
      · have z2 : (2 : Int) ≤ (b : Int) - x := by omega
        simp only [decide_eq_true z2]
        go_wp2
        go_loopw [10] (fun tv wr => ∃ (j : Nat) (D3 : Array α), tv = .int .i64 (j : Int) ∧ x < j ∧ j ≤ b ∧ Hid (shiftUp lt b j D3 = shiftUp lt b (x + 1) D2) ∧ St H g n w wr D3) (fun tv _ => ((b : Int) - intOf tv).toNat)
        case atStart => exact ⟨x + 1, D2, by simp, by omega, by omega, Lib.hid rfl, hst⟩
        case round =>
          clear hst
          obtain ⟨j, D3, rfl, hj1, hj2, hF, hst⟩ := hrel
          by_cases hjb : j < b
          · obtain ⟨q, hq⟩ : ∃ q, lt D3[j]! D3[j - 1]! = q := ⟨_, rfl⟩
            have k1 := hst.lessI X (j : Int) ((j : Int) - 1) j (j - 1) rfl (by omega) (by omega) (by omega) q hq
            have F := hF.out
            rw [shiftUp, if_pos hjb, hq] at F
            have HF := Lib.hid F
            clear hq hF F
            cases q with
            | false =>
              go_wp2_with (go_at_call 81; (with_reducible refine k1.mono ?_); rintro e wn ⟨rfl, hstn⟩)
              go_roundw
              case rel => exact ⟨x, s, D3, rfl, by congr 1; have := HC.out; omega, by omega, by omega, by omega, Lib.hid (by have e := HE.out; rw [← H1.out, ← H2.out] at e; rw [if_pos h2, ← HF.out] at e; exact e), hstn⟩
              case measure => have := HC.out; simp only [intOf]; omega
            | true =>
              go_wp2_with (first
                | (go_at_call 81; (with_reducible refine k1.mono ?_); rintro e wn ⟨rfl, hstn⟩
                   have k5 := hstn.swapI X (j : Int) ((j : Int) - 1) j (j - 1) rfl (by omega) (by omega) (by omega))
                | (go_at_call 82; (with_reducible refine k5.mono ?_); rintro e wm ⟨rfl, hstm⟩))
              go_roundw
              case rel => exact ⟨j + 1, _, by simp, by omega, by omega, Lib.hid (by have e := HF.out; simpa using e), hstm⟩
              case measure => simp only [intOf]; omega
          · have F := hF.out
            rw [shiftUp, if_neg hjb] at F
            have HF := Lib.hid F
            clear hF F
            go_wp2
            go_roundw
            case rel => exact ⟨x, s, D3, rfl, by congr 1; have := HC.out; omega, by omega, by omega, by omega, Lib.hid (by have e := HE.out; rw [← H1.out, ← H2.out] at e; rw [if_pos h2, ← HF.out] at e; exact e), hst⟩
            case measure => have := HC.out; simp only [intOf]; omega
      · have z2 : ¬ (2 : Int) ≤ (b : Int) - x := by omega
        simp only [decide_eq_false z2]
        go_wp2
        go_roundw
        case rel => exact ⟨x, s, D2, rfl, by congr 1; have := HC.out; omega, by omega, by omega, by omega, Lib.hid (by have e := HE.out; rw [← H1.out, ← H2.out] at e; rw [if_neg h2] at e; exact e), hst⟩
        case measure => have := HC.out; simp only [intOf]; omega
end
end Go.Proofs.Ytjiiploleinobaa
