/- breakPatterns over a value with Swap. Conditions: the row's length is below 256, the places lie in it, eight or more lie between. -/
import Derived.Test.YtjiiploleinobaaSrtF
import Derived.Laws.Bits64b
namespace Go.Proofs.Ytjiiploleinobaa
open Go.RowKit
open Go.Sort (swp bitsLen xorNextN xorNext xorNext_toNat xorNextN_lt breakStep breakPatterns)
set_option maxRecDepth 100000
set_option maxHeartbeats 4000000
set_option linter.unusedVariables false
section
variable {α : Type} [Inhabited α] {S : Value} {lt : α → α → Bool} {n g : Nat} {H : World → Array α → Prop}
structure Bk (H : World → Array α → Prop) (g n sb : Nat) (w W : World) (d : Array α) (r : Nat) : Prop where
  holds : H W d
  size : d.size = n
  cell : W.heap[sb]? = some (.cells #[.int .u64 (r : Int)] 89 (0, 0))
  old : g < w.heap.size
  new : w.heap.size ≤ sb
  kp : Kp (fun k => k = g) w W
theorem Bk.next (X : Srt S lt n g H) {sb r : Nat} {w W : World} {d : Array α} (h : Bk H g n sb w W d r) (hr : r < 18446744073709551616) :
    Calls Try.prog 59 #[.pointer (some ⟨sb, 0, none⟩)] W fun e w' => e = .returned (.int .u64 (xorNextN r : Nat)) ∧ Bk H g n sb w w' d (xorNextN r) :=
  (next_xor sb r hr W h.cell).mono fun e w' ⟨he, hc, hk⟩ => by
    have := h.old; have := h.new
    exact ⟨he, X.keep h.holds (hk.block g (X.dom h.holds) (by omega)), h.size, hc, h.old, h.new, Kp.step h.kp hk (fun i hi hs => by omega)⟩
theorem Bk.swapI (X : Srt S lt n g H) {sb r : Nat} {w W : World} {d : Array α} (h : Bk H g n sb w W d r) (x y : Int) (i j : Nat) (hx : x = i) (hy : y = j) (hi : i < n) (hj : j < n) :
    Calls Try.prog 82 #[S, .int .i64 x, .int .i64 y] W fun e w' => e = .returned (.tuple #[]) ∧ Bk H g n sb w w' (swp d i j) r := by
  subst hx hy
  have := h.old; have := h.new
  exact (X.swap W d i j h.holds h.size hi hj).mono fun _ _ ⟨he, hh, hk⟩ => ⟨he, hh, by rw [swp_size, h.size], (hk.block sb (Array.getElem?_eq_some_iff.1 h.cell).1 (by omega)).trans h.cell, h.old, h.new, Kp.trans h.kp hk⟩
def brk (a L M : Nat) (d : Array α) (idx : Nat) : Nat → UInt64 × Array α
  | 0 => (UInt64.ofNat L, d)
  | k + 1 => breakStep a L M (brk a L M d idx k) (idx + k)
theorem pow_len (L : Nat) (h : 1 ≤ L) (hL : L < 256) : 1 <<< bitsLen L ≤ 2 * L ∧ 1 <<< bitsLen L ≤ 256 ∧ 1 ≤ 1 <<< bitsLen L := by
  have : ∀ L < 256, 1 ≤ L → 1 <<< bitsLen L ≤ 2 * L ∧ 1 <<< bitsLen L ≤ 256 ∧ 1 ≤ 1 <<< bitsLen L := by decide +kernel
  exact this L hL h
theorem break_any (X : Srt S lt n g H) (hn : n < 256) (d : Array α) (a b : Nat) (hab : a + 8 ≤ b) (hb : b ≤ n) (w : World) (h : H w d) (hd : d.size = n) :
    Calls Try.prog 51 #[.iface 64 S, .int .i64 (a : Int), .int .i64 (b : Int)] w fun e w' => e = .returned (.tuple #[]) ∧ St H g n w w' (breakPatterns d a b) := by
  have mT : ∀ (w : World), (method 213 64 S "Swap").run Try.prog w = .ok (82, S) w := fun w => by kernel_rfl
  have cT := swap_calls S
  obtain ⟨L, hL⟩ : ∃ L, L = b - a := ⟨_, rfl⟩
  obtain ⟨M, hM⟩ : ∃ M, M = 1 <<< bitsLen L := ⟨_, rfl⟩
  obtain ⟨m, hm⟩ : ∃ m, m = L / 4 := ⟨_, rfl⟩
  obtain ⟨p1, p2, p3⟩ := pow_len L (by omega) (by omega)
  rw [← hM] at p1 p2 p3
  have e0 : breakPatterns d a b = (brk a L M d (a + m * 2 - 1) 3).2 := by
    unfold breakPatterns
    simp only
    rw [if_pos (by omega), ← hL, ← hM, ← hm]
    rfl
  rw [e0]
  have k1 := fun w => next_any L (by omega) w
  rw [← hM] at k1
  have bk0 : Bk H g n w.heap.size w (w.alloc (.cells #[.int .u64 (L : Int)] 89)) d L := ⟨X.keep h (((Below.refl _ _).alloc (Nat.le_refl _) _).block g (X.dom h)), hd, heap_alloc_new _ _, X.dom h, Nat.le_refl _, (Kp.refl _ w).alloc _⟩
  have q1 : (b : Int) - a = L := by omega
  have q2 : (L : Int) / 4 = m := by omega
  have q3 : 8 ≤ L := by omega
  have q4 : a + L ≤ n := by omega
  have q5 : 2 ≤ m := by omega
  have q6 : 4 * m ≤ L := by omega
  have wr : IntKind.u64.wrap (L : Int) = L := by rw [IntKind.wrap_u64]; omega
  obtain ⟨J, hJ⟩ : ∃ J, J = a + m * 2 - 1 := ⟨_, rfl⟩
  have q7 : (a : Int) + m * 2 - 1 = J := by omega
  have q8 : J + 1 = a + m * 2 := by omega
  rw [← hJ]
  clear e0 hM hL hm h hd hb hab hJ
  go_enter Try.func51, Try.ntmps51
  go_upto_block 0 with (go_at_call 58; (with_reducible refine (k1 _).mono ?_); rintro e w1 ⟨rfl, rfl⟩)
  go_wp2_with fail
  go_loopw [9] (fun t9 wr => ∃ k : Nat, t9 = .int .i64 ((J : Int) + (k : Int)) ∧ k ≤ 3 ∧ Bk H g n w.heap.size w wr (brk a L M d J k).2 (brk a L M d J k).1.toNat) (fun t9 _ => ((J : Int) + 3 - intOf t9).toNat)
  case atStart => exact ⟨0, by simp, by omega, by
    have : (brk a L M d J 0).1.toNat = L := by simp [brk]; omega
    rw [this]; exact bk0⟩
  case round =>
    clear bk0 k1
    obtain ⟨k, rfl, hk, hbk⟩ := hrel
    by_cases hk3 : k < 3
    · obtain ⟨r, hr⟩ : ∃ r, r = (brk a L M d J k).1.toNat := ⟨_, rfl⟩
      obtain ⟨d', hd'⟩ : ∃ d', d' = (brk a L M d J k).2 := ⟨_, rfl⟩
      have hlt : r < 18446744073709551616 := by rw [hr]; exact UInt64.toNat_lt _
      obtain ⟨r', hr'⟩ : ∃ r', r' = xorNextN r := ⟨_, rfl⟩
      have hlt' : r' < 18446744073709551616 := by rw [hr']; exact xorNextN_lt r hlt
      obtain ⟨o, ho⟩ : ∃ o, o = r' &&& (M - 1) := ⟨_, rfl⟩
      have ho1 : o ≤ M - 1 := by rw [ho]; exact Nat.and_le_right
      have E : brk a L M d J (k + 1) = (xorNext (brk a L M d J k).1, swp d' (J + k) (a + if o ≥ L then o - L else o)) := by
        rw [brk]
        unfold breakStep
        simp only
        rw [xorNext_toNat, ← hr, ← hr', ← ho, ← hd']
      have E1 : (brk a L M d J (k + 1)).1.toNat = r' := by rw [E, xorNext_toNat, ← hr, ← hr']
      have hand : bits .and .u64 (r' : Int) ((M : Int) - 1) = (o : Int) := by
        rw [show (M : Int) - 1 = ((M - 1 : Nat) : Int) by omega, bits_and_u64_nat _ _ hlt' (by omega), ← ho]
      have c1 := hbk.next X (by rw [← hr]; exact hlt)
      rw [← hr, ← hr', ← hd'] at c1
      have HE := Lib.hid E; have HE1 := Lib.hid E1
      have i1 : (k : Int) ≤ 2 := by omega
      clear E E1 hr hd' hlt hr' hlt' ho hbk
      by_cases hoL : L ≤ o
      · go_wp2_with (first
          | (go_at_call 59; (with_reducible refine c1.mono ?_); rintro e w1 ⟨rfl, hb1⟩
             have c2 := hb1.swapI X ((J : Int) + (k : Int)) ((a : Int) + ((o : Int) - (L : Int))) (J + k) (a + (o - L)) (by omega) (by omega) (by omega) (by omega))
          | (go_at_call 82; (with_reducible refine c2.mono ?_); rintro e w2 ⟨rfl, hb2⟩))
        go_roundw
        case rel => exact ⟨k + 1, by congr 1, by omega, by rw [HE1.out, HE.out, if_pos hoL]; exact hb2⟩
        case measure => simp only [intOf]; omega
      · go_wp2_with (first
          | (go_at_call 59; (with_reducible refine c1.mono ?_); rintro e w1 ⟨rfl, hb1⟩
             have c2 := hb1.swapI X ((J : Int) + (k : Int)) ((a : Int) + (o : Int)) (J + k) (a + o) (by omega) (by omega) (by omega) (by omega))
          | (go_at_call 82; (with_reducible refine c2.mono ?_); rintro e w2 ⟨rfl, hb2⟩))
        go_roundw
        case rel => exact ⟨k + 1, by congr 1, by omega, by rw [HE1.out, HE.out, if_neg hoL]; exact hb2⟩
        case measure => simp only [intOf]; omega
    · obtain rfl : k = 3 := by omega
      go_wp2
      go_end0
      exact ⟨rfl, ⟨hbk.holds, hbk.size, hbk.kp⟩⟩
end
end Go.Proofs.Ytjiiploleinobaa
