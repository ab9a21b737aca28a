/- The reference's Less of two names. Condition: twenty bytes each. -/
import Derived.Test.YtjiiploleinobaaSrtP
import Derived.Test.YtjiiploleinobaaOidG
namespace Go.Proofs.Ytjiiploleinobaa
open Go.RowKit
open Go.Sort (ltStr)
set_option maxRecDepth 100000
set_option maxHeartbeats 4000000
set_option linter.unusedVariables false
theorem lt_at : ∀ (i : Nat) (a b : List UInt8) (ha : i < a.length) (hb : i < b.length), a.take i = b.take i → a[i] ≠ b[i] → ltStr a b = decide (a[i].toNat < b[i].toNat)
  | i, [], b, ha, _, _, _ => by simp at ha
  | i, a, [], _, hb, _, _ => by simp at hb
  | 0, x :: a, y :: b, _, _, _, hne => by
    simp only [List.getElem_cons_zero] at hne ⊢
    unfold ltStr
    refine decide_eq_decide.2 ?_
    rw [List.cons_lt_cons_iff]
    have l1 : x < y ↔ x.toNat < y.toNat := Iff.rfl
    constructor
    · rintro (h | ⟨h, _⟩)
      · have := l1.1 h; omega
      · exact absurd h hne
    · intro h; exact .inl (l1.2 (by omega))
  | i + 1, x :: a, y :: b, ha, hb, ht, hne => by
    rw [List.take_succ_cons, List.take_succ_cons] at ht
    injection ht with h1 h2
    subst h1
    have ih := lt_at i a b (by simpa using ha) (by simpa using hb) h2 (by simpa using hne)
    simp only [List.getElem_cons_succ]
    rw [← ih]
    unfold ltStr
    refine decide_eq_decide.2 ?_
    rw [List.cons_lt_cons_iff]
    have n1 : ¬ x < x := fun h => by have : x.toNat < x.toNat := h; omega
    simp [n1]
theorem lt_same (a : List UInt8) : ltStr a a = false := by simp [ltStr, List.lt_irrefl]
theorem refless_any (a b : List UInt8) (ha : a.length = 20) (hb : b.length = 20) (w : World) :
    Calls Try.prog 37 #[idv a, idv b] w fun e w' => e = .returned (.bool (ltStr a b)) ∧ Below w.heap.size w w' := by
  obtain ⟨W0, hW0⟩ : ∃ W0, W0 = (w.alloc (.cells (bvs a).toArray 22)).alloc (.cells (bvs b).toArray 22) := ⟨_, rfl⟩
  have hb0 : Below w.heap.size w W0 := by rw [hW0]; exact ((Below.refl _ _).alloc (Nat.le_refl _) _).alloc (by simp) _
  have A0 : Sl W0 (some ⟨w.heap.size, 0, none⟩) (bvs a) := by
    rw [hW0]
    exact (Sl.of_block (heap_alloc_new _ _) (fun j v hj => by simpa using hj)).below ((Below.refl _ _).alloc (Nat.le_refl _) _)
  have B0 : Sl W0 (some ⟨w.heap.size + 1, 0, none⟩) (bvs b) := by
    rw [hW0]
    have h := Sl.of_block (off := 0) (heap_alloc_new (w.alloc (.cells (bvs a).toArray 22)) (.cells (bvs b).toArray 22)) (l := bvs b) (fun j v hj => by simpa using hj)
    rwa [show (w.alloc (.cells (bvs a).toArray 22)).heap.size = w.heap.size + 1 by simp] at h
  obtain ⟨r, hr⟩ : ∃ r, r = ltStr a b := ⟨_, rfl⟩
  rw [← hr]
  have HR := Lib.hid hr
  have HW0 := Lib.hid hW0
  have HA0 := Lib.hid A0; have HB0 := Lib.hid B0; have Hb0 := Lib.hid hb0
  have HA := Lib.hid ha; have HB := Lib.hid hb
  clear hW0 A0 B0 hb0 ha hb hr
  go_enter Try.func37, Try.ntmps37
  go_upto_block 0 with (fail)
  rw [← HW0.out]
  go_wp2_with fail
  go_loopw [5] (fun t5 wr => ∃ i : Nat, t5 = .int .i64 (i : Int) ∧ i ≤ 20 ∧ Hid (a.take i = b.take i) ∧ Below W0.heap.size W0 wr) (fun t5 _ => (20 - intOf t5).toNat)
  case atStart => exact ⟨0, rfl, by omega, Lib.hid (by simp), Below.refl _ _⟩
  case round =>
    obtain ⟨i, rfl, hi, hT, hbw⟩ := hrel
    by_cases h20 : i < 20
    · have hia : i < a.length := by rw [HA.out]; exact h20
      have hib : i < b.length := by rw [HB.out]; exact h20
      obtain ⟨x, hx⟩ : ∃ x, x = a[i] := ⟨_, rfl⟩
      obtain ⟨y, hy⟩ : ∃ y, y = b[i] := ⟨_, rfl⟩
      obtain ⟨ad, e1, c1⟩ := Bs.at (Sl.below HA0.out hbw) hia
      injection e1 with e1
      subst e1
      rw [add_plain, Nat.zero_add, ← hx] at c1
      obtain ⟨ad, e1, c2⟩ := Bs.at (Sl.below HB0.out hbw) hib
      injection e1 with e1
      subst e1
      rw [add_plain, Nat.zero_add, ← hy] at c2
      have bx := x.toNat_lt
      have byy := y.toNat_lt
      have HX := Lib.hid hx; have HY := Lib.hid hy
      clear hx hy
      by_cases hxy : x = y
      · subst hxy
        go_wp2
        go_quiet (fail)
        go_wp2
        go_roundw
        case rel => exact ⟨i + 1, by simp, by omega, Lib.hid (by rw [List.take_succ_eq_append_getElem hia, List.take_succ_eq_append_getElem hib, hT.out, ← HX.out, ← HY.out]), Below.drewN hbw _⟩
        case measure => simp only [intOf]; omega
      · have hne : ¬ (x.toNat : Int) = (y.toNat : Int) := fun e => hxy (UInt8.toNat_inj.1 (by omega))
        have hne2 : ((x.toNat : Int) == (y.toNat : Int)) = false := beq_eq_false_iff_ne.2 hne
        have hlt := lt_at i a b hia hib hT.out (by rw [← HX.out, ← HY.out]; exact hxy)
        rw [← HX.out, ← HY.out] at hlt
        have HL := Lib.hid hlt
        clear hlt
        go_wp2
        go_quiet (fail)
        go_wp2
        go_quiet (fail)
        go_wp2
        go_ret
        exact ⟨by rw [HR.out, HL.out]; rfl, Hb0.out.trans ((Below.drewN (Below.drewN hbw _) _).mono Hb0.out.size)⟩
    · obtain rfl : i = 20 := by omega
      have e : a = b := by
        have := hT.out
        rwa [List.take_of_length_le (by rw [HA.out]; omega), List.take_of_length_le (by rw [HB.out]; omega)] at this
      have HE := Lib.hid e
      clear e
      go_wp2
      go_ret
      exact ⟨by rw [HR.out, HE.out, lt_same]; rfl, Hb0.out.trans (hbw.mono Hb0.out.size)⟩
end Go.Proofs.Ytjiiploleinobaa
