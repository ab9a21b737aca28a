/- rows.find: the place of a name. Conditions: twenty bytes each, at most 256 rows, risen by name. -/
import Derived.Test.YtmfhlhjnfaiegaaDoorEnc
namespace Go.Proofs.YtmfhlhjnfaiegaaDoor
open Go.RowKit
set_option maxRecDepth 100000
set_option maxHeartbeats 1000000
set_option linter.unusedVariables false
def cmpB (a b : List UInt8) : Int := Lib.compareBytes a b
theorem cmp_any (r : Rf) (s : List UInt8) (w : World) :
    Calls Tryd.prog 48 #[rfv r, .string (bstr s)] w fun e w' => e = .returned (.int .i64 (cmpB r.1 s)) ∧ Below w.heap.size w w' := by
  obtain ⟨W0, hW0⟩ : ∃ W0, W0 = w.alloc (.cells (rcell r).toArray 47) := ⟨_, rfl⟩
  have hb0 : Below w.heap.size w W0 := by rw [hW0]; exact (Below.refl _ _).alloc (Nat.le_refl _) _
  have r0 : W0.heap[w.heap.size]? = some (.cells (rcell r).toArray 47 (0, 0)) := by rw [hW0]; exact heap_alloc_new _ _
  have h0 : W0.cell? ⟨w.heap.size, 0, none⟩ = some (.string (bstr r.1)) := by rw [cell_of_row _ _ _ _ _ _ r0]; rfl
  have HW0 := Lib.hid hW0; have HB0 := Lib.hid hb0
  clear hW0 hb0 r0
  go_enter Tryd.func48, Tryd.ntmps48
  go_upto_region 1 with fail
  rw [← HW0.out]
  go_wp2_with (go_at_call 49; (with_reducible refine (Tryd.strings_Compare _ _ _).mono ?_); rintro e w2 ⟨rfl, rfl⟩)
  go_ret
  exact ⟨by simp [cmpB], HB0.out⟩
theorem cmpB_le : ∀ (a b : List UInt8), (cmpB a b = -1 ∧ a < b) ∨ (cmpB a b = 0 ∧ a = b) ∨ (cmpB a b = 1 ∧ b < a)
  | [], [] => .inr (.inl ⟨rfl, rfl⟩)
  | [], y :: b => .inl ⟨rfl, List.nil_lt_cons y b⟩
  | x :: a, [] => .inr (.inr ⟨rfl, List.nil_lt_cons x a⟩)
  | x :: a, y :: b => by
    unfold cmpB Lib.compareBytes
    by_cases h : x < y
    · exact .inl ⟨by rw [if_pos h], List.cons_lt_cons_iff.2 (.inl h)⟩
    · by_cases h' : y < x
      · exact .inr (.inr ⟨by rw [if_neg h, if_pos h'], List.cons_lt_cons_iff.2 (.inl h')⟩)
      · have e : x = y := UInt8.le_antisymm (UInt8.not_lt.1 h') (UInt8.not_lt.1 h)
        subst e
        rw [if_neg h, if_neg h]
        rcases cmpB_le a b with ⟨e, k⟩ | ⟨e, k⟩ | ⟨e, k⟩
        · exact .inl ⟨e, List.cons_lt_cons_iff.2 (.inr ⟨rfl, k⟩)⟩
        · exact .inr (.inl ⟨e, by rw [k]⟩)
        · exact .inr (.inr ⟨e, List.cons_lt_cons_iff.2 (.inr ⟨rfl, k⟩)⟩)
theorem cmpB_neg (a b : List UInt8) : cmpB a b < 0 ↔ a < b := by
  rcases cmpB_le a b with ⟨e, k⟩ | ⟨e, k⟩ | ⟨e, k⟩
  · rw [e]; exact ⟨fun _ => k, fun _ => by decide⟩
  · rw [e]; exact ⟨fun h => absurd h (by decide), fun h => absurd (k ▸ h) (List.lt_irrefl _)⟩
  · rw [e]; exact ⟨fun h => absurd h (by decide), fun h => absurd (List.lt_trans h k) (List.lt_irrefl _)⟩
theorem cmpB_zero (a b : List UInt8) : cmpB a b = 0 ↔ a = b := by
  rcases cmpB_le a b with ⟨e, k⟩ | ⟨e, k⟩ | ⟨e, k⟩
  · rw [e]; exact ⟨fun h => absurd h (by decide), fun h => absurd (h ▸ k) (List.lt_irrefl _)⟩
  · rw [e]; exact ⟨fun _ => k, fun _ => rfl⟩
  · rw [e]; exact ⟨fun h => absurd h (by decide), fun h => absurd (h ▸ k) (List.lt_irrefl _)⟩
theorem search_any (l : List Rf) (h20 : Rf20 l) (hn : l.length ≤ 256) (ris : RisR l) (s : List UInt8) (A : Option Addr) (c : Nat) (w : World) (hA : Sl w A (rfc l)) :
    Calls Tryd.prog 47 #[.slice A l.length c, .string (bstr s), .func (.func 48) #[] #[]] w fun e w' => e = .returned (.tuple #[.int .i64 (pkN l s), .bool (isN l s)]) ∧ Below w.heap.size w w' := by
  obtain ⟨n, hnn⟩ : ∃ n, n = l.length := ⟨_, rfl⟩
  rw [← hnn]
  have hn2 : n ≤ 256 := by omega
  have HN := Lib.hid hnn; have HA := Lib.hid hA; have H20 := Lib.hid h20; have HR := Lib.hid ris
  clear hnn hA h20 hn ris
  go_enter Tryd.func47, Tryd.ntmps47
  go_wp2
  go_loopw [9, 10] (fun t9 t10 wr => ∃ i j : Nat, t9 = .int .i64 (i : Int) ∧ t10 = .int .i64 (j : Int) ∧ i ≤ j ∧ j ≤ n ∧ Hid ((∀ k, k < i → gtN l k < s) ∧ (∀ k, j ≤ k → k < n → ¬ gtN l k < s)) ∧ Below w.heap.size w wr) (fun t9 t10 _ => (intOf t10 - intOf t9).toNat)
  case atStart => exact ⟨0, n, rfl, rfl, by omega, by omega, Lib.hid ⟨fun k h => by omega, fun k h h' => by omega⟩, Below.refl _ _⟩
  case round =>
    obtain ⟨i, j, rfl, rfl, hij, hjn, HT, hbw⟩ := hrel
    by_cases hlt : i < j
    · obtain ⟨m, hm⟩ : ∃ m, m = (i + j) / 2 := ⟨_, rfl⟩
      have hm1 : i ≤ m := by omega
      have hm2 : m < j := by omega
      have hm3 : m < n := by omega
      have hil : m < l.length := by rw [← HN.out]; exact hm3
      obtain ⟨ad, rfl⟩ := rsl_some HA.out H20.out m hil
      have R := (rrow HA.out H20.out m hil).below hbw
      have r20 := gtR_20 H20.out m hil
      have lr := load_ref r20 R
      have k1 := cmp_any (gtR l m) s wr
      obtain ⟨z, hz⟩ : ∃ z, z = cmpB (gtR l m).1 s := ⟨_, rfl⟩
      rw [← hz] at k1
      have hcn : z < 0 ↔ gtN l m < s := by rw [hz]; exact cmpB_neg (gtR l m).1 s
      have HCN := Lib.hid hcn
      obtain ⟨r, hr⟩ : ∃ r, r = gtR l m := ⟨_, rfl⟩
      rw [← hr] at lr k1
      clear R r20 hr hz hcn
      have e1 : ((i : Int) + (j : Int)) / 2 = (m : Int) := by omega
      have e2 : IntKind.u64.wrap ((i : Int) + (j : Int)) = (i : Int) + (j : Int) := by rw [IntKind.wrap_u64]; omega
      clear hm
      by_cases hz : z < 0
      · have hzd : decide (z < 0) = true := decide_eq_true hz
        have hms := HCN.out.1 hz
        have HMS := Lib.hid hms
        clear hms hz HCN
        go_wp2_with (first
          | (refine wpList_loadG 47 (.tmp 27) rfl (ad.add (m * 21)) rfl (rfv r) lr rfl ?_)
          | (go_at_call 48; (with_reducible refine k1.mono ?_); rintro e w1 ⟨rfl, hb1⟩))
        go_roundw
        case rel =>
          refine ⟨m + 1, j, by simp, rfl, by omega, hjn, Lib.hid ⟨fun k hk => ?_, HT.out.2⟩, hbw.trans (hb1.mono hbw.size)⟩
          by_cases e : k = m
          · rw [e]; exact HMS.out
          · exact List.lt_trans (ris_lt_at HR.out (by omega) (by rw [← HN.out]; omega)) HMS.out
        case measure => simp only [intOf]; omega
      · have hzd : decide (z < 0) = false := decide_eq_false hz
        have hms : ¬ gtN l m < s := fun h => hz (HCN.out.2 h)
        have HMS := Lib.hid hms
        clear hms hz HCN
        go_wp2_with (first
          | (refine wpList_loadG 47 (.tmp 27) rfl (ad.add (m * 21)) rfl (rfv r) lr rfl ?_)
          | (go_at_call 48; (with_reducible refine k1.mono ?_); rintro e w1 ⟨rfl, hb1⟩))
        go_roundw
        case rel =>
          refine ⟨i, m, rfl, rfl, by omega, by omega, Lib.hid ⟨HT.out.1, fun k hk hkn hks => ?_⟩, hbw.trans (hb1.mono hbw.size)⟩
          by_cases e : k = m
          · rw [e] at hks; exact HMS.out hks
          · exact HMS.out (List.lt_trans (ris_lt_at HR.out (by omega) (by rw [← HN.out]; omega)) hks)
        case measure => simp only [intOf]; omega
    · obtain rfl : i = j := by omega
      have hp : pkN l s = i := pkN_of l s i (by rw [← HN.out]; exact hjn) HT.out.1 (fun h => HT.out.2 i (Nat.le_refl _) (by rw [HN.out]; exact h))
      have HP := Lib.hid hp
      by_cases hin : i < n
      · have hil : i < l.length := by rw [← HN.out]; exact hin
        obtain ⟨ad, rfl⟩ := rsl_some HA.out H20.out i hil
        have R := (rrow HA.out H20.out i hil).below hbw
        have r20 := gtR_20 H20.out i hil
        have lr := load_ref r20 R
        have k1 := cmp_any (gtR l i) s wr
        obtain ⟨z, hz⟩ : ∃ z, z = cmpB (gtR l i).1 s := ⟨_, rfl⟩
        rw [← hz] at k1
        have hzi : (z == 0) = isN l s := by
          unfold isN
          rw [hp, Bool.eq_iff_iff, beq_iff_eq, decide_eq_true_iff, hz, cmpB_zero]
          exact ⟨fun h => ⟨hil, h⟩, fun h => h.2⟩
        obtain ⟨q, hq⟩ : ∃ q, q = isN l s := ⟨_, rfl⟩
        rw [← hq] at hzi
        have HQ := Lib.hid hq
        obtain ⟨r, hr⟩ : ∃ r, r = gtR l i := ⟨_, rfl⟩
        rw [← hr] at lr k1
        clear R r20 hr hz hp hq hlt
        go_wp2_with (first
          | (refine wpList_loadG 47 (.tmp 43) rfl (ad.add (i * 21)) rfl (rfv r) lr rfl ?_)
          | (go_at_call 48; (with_reducible refine k1.mono ?_); rintro e w1 ⟨rfl, hb1⟩))
        go_ret2
        exact ⟨by rw [HP.out, ← HQ.out]; rfl, hbw.trans (hb1.mono hbw.size)⟩
      · have hq : isN l s = false := by
          unfold isN
          rw [hp]
          exact decide_eq_false (fun h => hin (by rw [HN.out]; exact h.1))
        have HQ := Lib.hid hq
        clear hp hq hlt
        go_wp2
        go_ret2
        exact ⟨by rw [HP.out, HQ.out]; rfl, hbw⟩
theorem find_any (l : List Rf) (h20 : Rf20 l) (hn : l.length ≤ 256) (ris : RisR l) (s : List UInt8) (A : Option Addr) (c : Nat) (w : World) (hA : Sl w A (rfc l)) :
    Calls Tryd.prog 31 #[.slice A l.length c, .string (bstr s)] w fun e w' => e = .returned (.tuple #[.int .i64 (pkN l s), .bool (isN l s)]) ∧ Below w.heap.size w w' := by
  have k := search_any l h20 hn ris s A c w hA
  clear h20 hn ris hA
  go_enter Tryd.func31, Tryd.ntmps31
  go_wp2_with (go_at_call 47; (with_reducible refine k.mono ?_); rintro e w1 ⟨rfl, hb1⟩)
  go_ret2
  exact ⟨rfl, hb1⟩
end Go.Proofs.YtmfhlhjnfaiegaaDoor
