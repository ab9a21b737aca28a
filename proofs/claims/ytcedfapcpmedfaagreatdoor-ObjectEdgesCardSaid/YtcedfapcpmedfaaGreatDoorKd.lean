/- breakPatterns over a value with Swap. Conditions: the row's length is below 256, the places lie in it, eight or more lie between.
   partition over a value with Less and Swap. Conditions: the row's length is at most 2^40, the places lie in it.
   partitionEqual over a value with Less and Swap. Conditions: the row's length is at most 2^40, the places lie in it.
   partialInsertionSort over a value with Less and Swap. Conditions: the row's length is at most 2^40, the places lie in it.
   What a loop of the sort keeps: whatever sorts the part that is left sorts the whole. No condition.
   pdqsort over a value with Less and Swap. Conditions: the row's length is below 256, Less is a strict weak order. -/
import Derived.Test.YtcedfapcpmedfaaGreatDoorKc
import Derived.Laws.Bits64b
import Derived.Sort.LotC
import Derived.Deep.DeepCutAuto
import Derived.Sort.AssemblyPlain
namespace Go.Proofs.YtcedfapcpmedfaaGreatDoor
section
open Go.RowKit
open Go.Sort (swp bitsLen xorNextN xorNext xorNext_toNat xorNextN_lt breakStep breakPatterns)
set_option maxRecDepth 100000
set_option maxHeartbeats 4000000
set_option linter.unusedVariables false
section
variable {α : Type} [Inhabited α] {S : Value} {lt : α → α → Bool} {n g : Nat} {H : World → Array α → Prop}
structure Bk (H : World → Array α → Prop) (g n sb : Nat) (w W : World) (d : Array α) (r : Nat) : Prop where
  holds : H W d
  size : d.size = n
  cell : W.heap[sb]? = some (.cells #[.int .u64 (r : Int)] 223 (0, 0))
  old : g < w.heap.size
  new : w.heap.size ≤ sb
  kp : Kp (fun k => k = g) w W
theorem Bk.next (X : Srt S lt n g H) {sb r : Nat} {w W : World} {d : Array α} (h : Bk H g n sb w W d r) (hr : r < 18446744073709551616) :
    Calls Tryz.prog 176 #[.pointer (some ⟨sb, 0, none⟩)] W fun e w' => e = .returned (.int .u64 (xorNextN r : Nat)) ∧ Bk H g n sb w w' d (xorNextN r) :=
  (next_xor sb r hr W h.cell).mono fun e w' ⟨he, hc, hk⟩ => by
    have := h.old; have := h.new
    exact ⟨he, X.keep h.holds (hk.block g (X.dom h.holds) (by omega)), h.size, hc, h.old, h.new, Kp.step h.kp hk (fun i hi hs => by omega)⟩
theorem Bk.swapI (X : Srt S lt n g H) {sb r : Nat} {w W : World} {d : Array α} (h : Bk H g n sb w W d r) (x y : Int) (i j : Nat) (hx : x = i) (hy : y = j) (hi : i < n) (hj : j < n) :
    Calls Tryz.prog 204 #[S, .int .i64 x, .int .i64 y] W fun e w' => e = .returned (.tuple #[]) ∧ Bk H g n sb w w' (swp d i j) r := by
  subst hx hy
  have := h.old; have := h.new
  exact (X.swap W d i j h.holds h.size hi hj).mono fun _ _ ⟨he, hh, hk⟩ => ⟨he, hh, by rw [swp_size, h.size], (hk.block sb (Array.getElem?_eq_some_iff.1 h.cell).1 (by omega)).trans h.cell, h.old, h.new, Kp.trans h.kp hk⟩
def brk (a L M : Nat) (d : Array α) (idx : Nat) : Nat → UInt64 × Array α
  | 0 => (UInt64.ofNat L, d)
  | k + 1 => breakStep a L M (brk a L M d idx k) (idx + k)
theorem pow_len (L : Nat) (h : 1 ≤ L) (hL : L < 256) : 1 <<< bitsLen L ≤ 2 * L ∧ 1 <<< bitsLen L ≤ 256 ∧ 1 ≤ 1 <<< bitsLen L := by
  have : ∀ L < 256, 1 ≤ L → 1 <<< bitsLen L ≤ 2 * L ∧ 1 <<< bitsLen L ≤ 256 ∧ 1 ≤ 1 <<< bitsLen L := by decide +kernel
  exact this L hL h
theorem break_any (X : Srt S lt n g H) (hn : n < 256) (d : Array α) (a b : Nat) (hab : a + 8 ≤ b) (hb : b ≤ n) (w : World) (h : H w d) (hd : d.size = n) :
    Calls Tryz.prog 162 #[.iface 171 S, .int .i64 (a : Int), .int .i64 (b : Int)] w fun e w' => e = .returned (.tuple #[]) ∧ St H g n w w' (breakPatterns d a b) := by
  have mT : ∀ (w : World), (method 350 171 S "Swap").run Tryz.prog w = .ok (204, S) w := fun w => by kernel_rfl
  have cT := swap_calls S
  obtain ⟨L, hL⟩ : ∃ L, L = b - a := ⟨_, rfl⟩
  obtain ⟨M, hM⟩ : ∃ M, M = 1 <<< bitsLen L := ⟨_, rfl⟩
  obtain ⟨m, hm⟩ : ∃ m, m = L / 4 := ⟨_, rfl⟩
  obtain ⟨p1, p2, p3⟩ := pow_len L (by omega) (by omega)
  rw [← hM] at p1 p2 p3
  have e0 : breakPatterns d a b = (brk a L M d (a + m * 2 - 1) 3).2 := by
    unfold breakPatterns
    simp only
    rw [if_pos (by omega), ← hL, ← hM, ← hm]
    rfl
  rw [e0]
  have k1 := fun w => next_any L (by omega) w
  rw [← hM] at k1
  have bk0 : Bk H g n w.heap.size w (w.alloc (.cells #[.int .u64 (L : Int)] 223)) d L := ⟨X.keep h (((Below.refl _ _).alloc (Nat.le_refl _) _).block g (X.dom h)), hd, heap_alloc_new _ _, X.dom h, Nat.le_refl _, (Kp.refl _ w).alloc _⟩
  have q1 : (b : Int) - a = L := by omega
  have q2 : (L : Int) / 4 = m := by omega
  have q3 : 8 ≤ L := by omega
  have q4 : a + L ≤ n := by omega
  have q5 : 2 ≤ m := by omega
  have q6 : 4 * m ≤ L := by omega
  have wr : IntKind.u64.wrap (L : Int) = L := by rw [IntKind.wrap_u64]; omega
  obtain ⟨J, hJ⟩ : ∃ J, J = a + m * 2 - 1 := ⟨_, rfl⟩
  have q7 : (a : Int) + m * 2 - 1 = J := by omega
  have q8 : J + 1 = a + m * 2 := by omega
  rw [← hJ]
  clear e0 hM hL hm h hd hb hab hJ
  go_enter Tryz.func162, Tryz.ntmps162
  go_upto_block 0 with (go_at_call 175; (with_reducible refine (k1 _).mono ?_); rintro e w1 ⟨rfl, rfl⟩)
  go_wp2_with fail
  go_loopw [9] (fun t9 wr => ∃ k : Nat, t9 = .int .i64 ((J : Int) + (k : Int)) ∧ k ≤ 3 ∧ Bk H g n w.heap.size w wr (brk a L M d J k).2 (brk a L M d J k).1.toNat) (fun t9 _ => ((J : Int) + 3 - intOf t9).toNat)
  case atStart => exact ⟨0, by simp, by omega, by
    have : (brk a L M d J 0).1.toNat = L := by simp [brk]; omega
    rw [this]; exact bk0⟩
  case round =>
    clear bk0 k1
    obtain ⟨k, rfl, hk, hbk⟩ := hrel
    by_cases hk3 : k < 3
    · obtain ⟨r, hr⟩ : ∃ r, r = (brk a L M d J k).1.toNat := ⟨_, rfl⟩
      obtain ⟨d', hd'⟩ : ∃ d', d' = (brk a L M d J k).2 := ⟨_, rfl⟩
      have hlt : r < 18446744073709551616 := by rw [hr]; exact UInt64.toNat_lt _
      obtain ⟨r', hr'⟩ : ∃ r', r' = xorNextN r := ⟨_, rfl⟩
      have hlt' : r' < 18446744073709551616 := by rw [hr']; exact xorNextN_lt r hlt
      obtain ⟨o, ho⟩ : ∃ o, o = r' &&& (M - 1) := ⟨_, rfl⟩
      have ho1 : o ≤ M - 1 := by rw [ho]; exact Nat.and_le_right
      have E : brk a L M d J (k + 1) = (xorNext (brk a L M d J k).1, swp d' (J + k) (a + if o ≥ L then o - L else o)) := by
        rw [brk]
        unfold breakStep
        simp only
        rw [xorNext_toNat, ← hr, ← hr', ← ho, ← hd']
      have E1 : (brk a L M d J (k + 1)).1.toNat = r' := by rw [E, xorNext_toNat, ← hr, ← hr']
      have hand : bits .and .u64 (r' : Int) ((M : Int) - 1) = (o : Int) := by
        rw [show (M : Int) - 1 = ((M - 1 : Nat) : Int) by omega, bits_and_u64_nat _ _ hlt' (by omega), ← ho]
      have c1 := hbk.next X (by rw [← hr]; exact hlt)
      rw [← hr, ← hr', ← hd'] at c1
      have HE := Lib.hid E; have HE1 := Lib.hid E1
      have i1 : (k : Int) ≤ 2 := by omega
      clear E E1 hr hd' hlt hr' hlt' ho hbk
      by_cases hoL : L ≤ o
      · go_wp2_with (first
          | (go_at_call 176; (with_reducible refine c1.mono ?_); rintro e w1 ⟨rfl, hb1⟩
             have c2 := hb1.swapI X ((J : Int) + (k : Int)) ((a : Int) + ((o : Int) - (L : Int))) (J + k) (a + (o - L)) (by omega) (by omega) (by omega) (by omega))
          | (go_at_call 204; (with_reducible refine c2.mono ?_); rintro e w2 ⟨rfl, hb2⟩))
        go_roundw
        case rel => exact ⟨k + 1, by congr 1, by omega, by rw [HE1.out, HE.out, if_pos hoL]; exact hb2⟩
        case measure => simp only [intOf]; omega
      · go_wp2_with (first
          | (go_at_call 176; (with_reducible refine c1.mono ?_); rintro e w1 ⟨rfl, hb1⟩
             have c2 := hb1.swapI X ((J : Int) + (k : Int)) ((a : Int) + (o : Int)) (J + k) (a + o) (by omega) (by omega) (by omega) (by omega))
          | (go_at_call 204; (with_reducible refine c2.mono ?_); rintro e w2 ⟨rfl, hb2⟩))
        go_roundw
        case rel => exact ⟨k + 1, by congr 1, by omega, by rw [HE1.out, HE.out, if_neg hoL]; exact hb2⟩
        case measure => simp only [intOf]; omega
    · obtain rfl : k = 3 := by omega
      go_wp2
      go_end0
      exact ⟨rfl, ⟨hbk.holds, hbk.size, hbk.kp⟩⟩
end
end
section
open Go.RowKit
open Go.Sort (swp scanUp scanDown partLoop partLoop_eq partition partEqLoop partEqLoop_eq partitionEqual)
set_option maxRecDepth 100000
set_option maxHeartbeats 8000000
set_option linter.unusedVariables false
section
variable {α : Type} [Inhabited α] {S : Value} {lt : α → α → Bool} {n g : Nat} {H : World → Array α → Prop}
theorem up_go (p : α → Bool) (d : Array α) (j i : Nat) (h : i ≤ j) (hp : p d[i]! = true) : scanUp p d j i = scanUp p d j (i + 1) := by
  rw [scanUp, if_pos (by simp [h, hp])]
theorem up_end (p : α → Bool) (d : Array α) (j i : Nat) (h : ¬ i ≤ j ∨ p d[i]! = false) : scanUp p d j i = i := by
  rw [scanUp, if_neg (by rcases h with h | h <;> simp [h])]
theorem down_go (p : α → Bool) (d : Array α) (i j : Nat) (h : i ≤ j) (h0 : 0 < j) (hp : p d[j]! = true) : scanDown p d i j = scanDown p d i (j - 1) := by
  obtain ⟨m, rfl⟩ : ∃ m, j = m + 1 := ⟨j - 1, by omega⟩
  rw [scanDown, if_pos (by simp [h, hp]), Nat.add_sub_cancel]
theorem down_end (p : α → Bool) (d : Array α) (i j : Nat) (h : ¬ i ≤ j ∨ p d[j]! = false) : scanDown p d i j = j := by
  cases j with
  | zero => rfl
  | succ m => rw [scanDown, if_neg (by rcases h with h | h <;> simp [h])]
theorem part_any (X : Srt S lt n g H) (hn : n ≤ 1099511627776) (d : Array α) (a b p : Nat) (hp : a ≤ p) (hpb : p < b) (hb : b ≤ n) (w : World) (h : H w d) (hd : d.size = n) (m : Nat) (q0 : Bool) (d' : Array α) (ho : partition lt d a b p = (m, q0, d')) :
    Calls Tryz.prog 167 #[.iface 171 S, .int .i64 (a : Int), .int .i64 (b : Int), .int .i64 (p : Int)] w fun e w' => e = .returned (.tuple #[.int .i64 (m : Int), .bool q0]) ∧ St H g n w w' d' := by
  have mS : ∀ (w : World), (method 350 171 S "Less").run Tryz.prog w = .ok (203, S) w := fun w => by kernel_rfl
  have mT : ∀ (w : World), (method 350 171 S "Swap").run Tryz.prog w = .ok (204, S) w := fun w => by kernel_rfl
  have cS := less_calls S
  have cT := swap_calls S
  have st0 := St.start (g := g) (n := n) w d h hd
  have k0 := st0.swap X a p (by omega) (by omega)
  obtain ⟨D, hD⟩ : ∃ D, D = swp d a p := ⟨_, rfl⟩
  rw [← hD] at k0
  obtain ⟨A, hA⟩ : ∃ A, A = a + 1 := ⟨_, rfl⟩
  obtain ⟨B, hB⟩ : ∃ B, B = b - 1 := ⟨_, rfl⟩
  unfold partition at ho
  simp only at ho
  rw [← hD, ← hA, ← hB] at ho
  have HO := Lib.hid ho
  have HA := Lib.hid hA
  have a1 : a < A := by omega
  have a2 : A ≤ B + 1 := by omega
  have a3 : B < n := by omega
  have e1 : (a : Int) + 1 = A := by omega
  have e2 : (b : Int) - 1 = B := by omega
  clear st0 hD ho h hd hA hB
  go_enter Tryz.func167, Tryz.ntmps167
  go_upto_block 0 with (go_at_call 204; (with_reducible refine k0.mono ?_); rintro e w0 ⟨rfl, hs0⟩)
  go_cut [10] from 12 (fun tv wx => ∃ xx : Nat, tv = .int .i64 (xx : Int) ∧ A ≤ xx ∧ xx ≤ B + 2 ∧ Hid (scanUp (fun x => lt x D[a]!) D B A = xx) ∧ St H g n w wx D)
  case first =>
    go_wp2_with fail
    go_loopw [10] (fun tv wr => ∃ xx : Nat, tv = .int .i64 (xx : Int) ∧ A ≤ xx ∧ xx ≤ B + 2 ∧ Hid (scanUp (fun x => lt x D[a]!) D B xx = scanUp (fun x => lt x D[a]!) D B A) ∧ St H g n w wr D) (fun tv _ => ((B : Int) + 3 - intOf tv).toNat)
    case atStart => exact ⟨A, by first | rfl | (congr 1), Nat.le_refl _, by omega, Lib.hid rfl, hs0⟩
    case round =>
      clear hs0
      obtain ⟨xx, rfl, hi1, hi2, hF, hst⟩ := hrel
      by_cases hij : xx ≤ B
      · obtain ⟨q, hq⟩ : ∃ q, lt D[xx]! D[a]! = q := ⟨_, rfl⟩
        have k1 := hst.lessI X (xx : Int) (a : Int) xx a rfl rfl (by omega) (by omega) q hq
        have HQ := Lib.hid hq
        clear hq
        cases q with
        | true =>
          go_wp2_with (go_at_call 203; (with_reducible refine k1.mono ?_); rintro e wn ⟨rfl, hstn⟩)
          go_roundw
          case rel => exact ⟨xx + 1, by simp, by omega, by omega, Lib.hid (by have e := hF.out; rw [up_go _ _ _ _ hij (by simp [HQ.out])] at e; exact e), hstn⟩
          case measure => simp only [intOf]; omega
        | false =>
          go_wp2_with (go_at_call 203; (with_reducible refine k1.mono ?_); rintro e wn ⟨rfl, hstn⟩)
          go_meet
          case rel => exact ⟨xx, rfl, hi1, hi2, Lib.hid (by rw [← hF.out, up_end _ _ _ _ (.inr (by simp [HQ.out]))]), hstn⟩
      · go_wp2
        go_meet
        case rel => exact ⟨xx, rfl, hi1, hi2, Lib.hid (by rw [← hF.out, up_end _ _ _ _ (.inl hij)]), hst⟩
  case rest =>
  clear hs0
  obtain ⟨i1, rfl, i11, i12, i1H, hs1⟩ := hcut
  go_upto_block 2 with (fail)
  go_cut [11] from 12 (fun tv wx => ∃ yy : Nat, tv = .int .i64 (yy : Int) ∧ yy ≤ B ∧ i1 ≤ yy + 2 ∧ Hid (scanDown (fun x => !lt x D[a]!) D i1 B = yy) ∧ St H g n w wx D)
  case first =>
    go_wp2_with fail
    go_loopw [11] (fun tv wr => ∃ yy : Nat, tv = .int .i64 (yy : Int) ∧ yy ≤ B ∧ i1 ≤ yy + 2 ∧ Hid (scanDown (fun x => !lt x D[a]!) D i1 yy = scanDown (fun x => !lt x D[a]!) D i1 B) ∧ St H g n w wr D) (fun tv _ => (intOf tv).toNat)
    case atStart => exact ⟨B, by first | rfl | (congr 1; omega), Nat.le_refl _, by omega, Lib.hid rfl, hs1⟩
    case round =>
      clear hs1
      obtain ⟨yy, rfl, hj1, hj2, hF, hst⟩ := hrel
      by_cases hij : i1 ≤ yy
      · obtain ⟨q, hq⟩ : ∃ q, lt D[yy]! D[a]! = q := ⟨_, rfl⟩
        have k1 := hst.lessI X (yy : Int) (a : Int) yy a rfl rfl (by omega) (by omega) q hq
        have HQ := Lib.hid hq
        clear hq
        cases q with
        | false =>
          go_wp2_with (go_at_call 203; (with_reducible refine k1.mono ?_); rintro e wn ⟨rfl, hstn⟩)
          go_roundw
          case rel => exact ⟨yy - 1, by congr 1; omega, by omega, by omega, Lib.hid (by have e := hF.out; rw [down_go _ _ _ _ hij (by omega) (by simp [HQ.out])] at e; exact e), hstn⟩
          case measure => simp only [intOf]; omega
        | true =>
          go_wp2_with (go_at_call 203; (with_reducible refine k1.mono ?_); rintro e wn ⟨rfl, hstn⟩)
          go_meet
          case rel => exact ⟨yy, rfl, hj1, hj2, Lib.hid (by rw [← hF.out, down_end _ _ _ _ (.inr (by simp [HQ.out]))]), hstn⟩
      · go_wp2
        go_meet
        case rel => exact ⟨yy, rfl, hj1, hj2, Lib.hid (by rw [← hF.out, down_end _ _ _ _ (.inl hij)]), hst⟩
  case rest =>
  clear hs1
  obtain ⟨j1, rfl, j11, j12, j1H, hs2⟩ := hcut
  by_cases hij : i1 > j1
  · have k3 := hs2.swap X j1 a (by omega) (by omega)
    have E := HO.out
    rw [i1H.out, j1H.out, if_pos hij] at E
    injection E with E1 E2
    injection E2 with E2 E3
    subst E1 E2 E3
    clear HO i1H j1H
    go_wp2_with (go_at_call 204; (with_reducible refine k3.mono ?_); rintro e wn ⟨rfl, hsn⟩)
    go_ret2
    exact ⟨rfl, hsn⟩
  obtain ⟨r1, r2, hr⟩ : ∃ r1 r2, partLoop lt a (i1 + 1) (j1 - 1) (swp D i1 j1) = (r1, r2) := ⟨_, _, rfl⟩
  have E := HO.out
  rw [i1H.out, j1H.out, if_neg hij, hr] at E
  injection E with E1 E2
  injection E2 with E2 E3
  simp only at E1 E3
  subst E1 E2 E3
  have k4 := hs2.swap X i1 j1 (by omega) (by omega)
  have HR := Lib.hid hr
  clear HO i1H j1H hr hs2
  go_upto_block 4 with (go_at_call 204; (with_reducible refine k4.mono ?_); rintro e w4 ⟨rfl, hs4⟩)
  go_wp2_with fail
  go_loopw [10, 11] (fun t10 t11 wr => ∃ (i j : Nat) (D' : Array α), t10 = .int .i64 (i : Int) ∧ t11 = .int .i64 (j : Int) ∧ a < i ∧ i ≤ j + 2 ∧ j < n ∧ Hid (partLoop lt a i j D' = (r1, r2)) ∧ St H g n w wr D') (fun t10 t11 _ => (intOf t11 + 3 - intOf t10).toNat)
  case atStart => exact ⟨i1 + 1, j1 - 1, _, by simp, by congr 1; omega, by omega, by omega, by omega, HR, hs4⟩
  case round =>
    clear hs4 HR k0 k4
    obtain ⟨i, j, D', rfl, rfl, b1, b2, b3, HL, hs5⟩ := hrel
    go_upto_block 6 with (fail)
    go_cut [10] (fun tv wx => ∃ xx : Nat, tv = .int .i64 (xx : Int) ∧ i ≤ xx ∧ xx ≤ j + 2 ∧ Hid (scanUp (fun x => lt x D'[a]!) D' j i = xx) ∧ St H g n w wx D')
    case first =>
      go_wp2_with fail
      go_loopw [10] (fun tv wr => ∃ xx : Nat, tv = .int .i64 (xx : Int) ∧ i ≤ xx ∧ xx ≤ j + 2 ∧ Hid (scanUp (fun x => lt x D'[a]!) D' j xx = scanUp (fun x => lt x D'[a]!) D' j i) ∧ St H g n w wr D') (fun tv _ => ((j : Int) + 3 - intOf tv).toNat)
      case atStart => exact ⟨i, by first | rfl | (congr 1), Nat.le_refl _, by omega, Lib.hid rfl, hs5⟩
      case round =>
        clear hs5
        obtain ⟨xx, rfl, hi1, hi2, hF, hst⟩ := hrel
        by_cases hij : xx ≤ j
        · obtain ⟨q, hq⟩ : ∃ q, lt D'[xx]! D'[a]! = q := ⟨_, rfl⟩
          have k1 := hst.lessI X (xx : Int) (a : Int) xx a rfl rfl (by omega) (by omega) q hq
          have HQ := Lib.hid hq
          clear hq
          cases q with
          | true =>
            go_wp2_with (go_at_call 203; (with_reducible refine k1.mono ?_); rintro e wn ⟨rfl, hstn⟩)
            go_roundw
            case rel => exact ⟨xx + 1, by simp, by omega, by omega, Lib.hid (by have e := hF.out; rw [up_go _ _ _ _ hij (by simp [HQ.out])] at e; exact e), hstn⟩
            case measure => simp only [intOf]; omega
          | false =>
            go_wp2_with (go_at_call 203; (with_reducible refine k1.mono ?_); rintro e wn ⟨rfl, hstn⟩)
            go_meet
            case rel => exact ⟨xx, rfl, hi1, hi2, Lib.hid (by rw [← hF.out, up_end _ _ _ _ (.inr (by simp [HQ.out]))]), hstn⟩
        · go_wp2
          go_meet
          case rel => exact ⟨xx, rfl, hi1, hi2, Lib.hid (by rw [← hF.out, up_end _ _ _ _ (.inl hij)]), hst⟩
    case rest =>
    clear hs5
    obtain ⟨i2, rfl, i21, i22, i2H, hs6⟩ := hcut
    go_upto_block 8 with (fail)
    go_cut [11] (fun tv wx => ∃ yy : Nat, tv = .int .i64 (yy : Int) ∧ yy ≤ j ∧ i2 ≤ yy + 2 ∧ Hid (scanDown (fun x => !lt x D'[a]!) D' i2 j = yy) ∧ St H g n w wx D')
    case first =>
      go_wp2_with fail
      go_loopw [11] (fun tv wr => ∃ yy : Nat, tv = .int .i64 (yy : Int) ∧ yy ≤ j ∧ i2 ≤ yy + 2 ∧ Hid (scanDown (fun x => !lt x D'[a]!) D' i2 yy = scanDown (fun x => !lt x D'[a]!) D' i2 j) ∧ St H g n w wr D') (fun tv _ => (intOf tv).toNat)
      case atStart => exact ⟨j, by first | rfl | (congr 1; omega), Nat.le_refl _, by omega, Lib.hid rfl, hs6⟩
      case round =>
        clear hs6
        obtain ⟨yy, rfl, hj1, hj2, hF, hst⟩ := hrel
        by_cases hij : i2 ≤ yy
        · obtain ⟨q, hq⟩ : ∃ q, lt D'[yy]! D'[a]! = q := ⟨_, rfl⟩
          have k1 := hst.lessI X (yy : Int) (a : Int) yy a rfl rfl (by omega) (by omega) q hq
          have HQ := Lib.hid hq
          clear hq
          cases q with
          | false =>
            go_wp2_with (go_at_call 203; (with_reducible refine k1.mono ?_); rintro e wn ⟨rfl, hstn⟩)
            go_roundw
            case rel => exact ⟨yy - 1, by congr 1; omega, by omega, by omega, Lib.hid (by have e := hF.out; rw [down_go _ _ _ _ hij (by omega) (by simp [HQ.out])] at e; exact e), hstn⟩
            case measure => simp only [intOf]; omega
          | true =>
            go_wp2_with (go_at_call 203; (with_reducible refine k1.mono ?_); rintro e wn ⟨rfl, hstn⟩)
            go_meet
            case rel => exact ⟨yy, rfl, hj1, hj2, Lib.hid (by rw [← hF.out, down_end _ _ _ _ (.inr (by simp [HQ.out]))]), hstn⟩
        · go_wp2
          go_meet
          case rel => exact ⟨yy, rfl, hj1, hj2, Lib.hid (by rw [← hF.out, down_end _ _ _ _ (.inl hij)]), hst⟩
    case rest =>
    clear hs6
    obtain ⟨j2, rfl, j21, j22, j2H, hs7⟩ := hcut
    have E := HL.out
    rw [partLoop_eq, i2H.out, j2H.out] at E
    by_cases hij2 : i2 > j2
    · rw [if_pos hij2] at E
      injection E with E1 E2
      subst E1 E2
      have k5 := hs7.swap X j2 a (by omega) (by omega)
      clear HL i2H j2H
      go_wp2_with (go_at_call 204; (with_reducible refine k5.mono ?_); rintro e wn ⟨rfl, hsn⟩)
      go_ret2
      exact ⟨rfl, hsn⟩
    · rw [if_neg hij2] at E
      have HE := Lib.hid E
      have k5 := hs7.swap X i2 j2 (by omega) (by omega)
      clear HL i2H j2H E
      go_wp2_with (go_at_call 204; (with_reducible refine k5.mono ?_); rintro e wn ⟨rfl, hsn⟩)
      go_roundw
      case rel => exact ⟨i2 + 1, j2 - 1, _, by simp, by congr 1; omega, by omega, by omega, by omega, HE, hsn⟩
      case measure => simp only [intOf]; omega
end
end
section
open Go.RowKit
open Go.Sort (swp scanUp scanDown partLoop partLoop_eq partition partEqLoop partEqLoop_eq partitionEqual)
set_option maxRecDepth 100000
set_option maxHeartbeats 8000000
set_option linter.unusedVariables false
section
variable {α : Type} [Inhabited α] {S : Value} {lt : α → α → Bool} {n g : Nat} {H : World → Array α → Prop}
theorem equal_any (X : Srt S lt n g H) (hn : n ≤ 1099511627776) (d : Array α) (a b p : Nat) (hp : a ≤ p) (hpb : p < b) (hb : b ≤ n) (w : World) (h : H w d) (hd : d.size = n) (m : Nat) (d' : Array α) (ho : partitionEqual lt d a b p = (m, d')) :
    Calls Tryz.prog 166 #[.iface 171 S, .int .i64 (a : Int), .int .i64 (b : Int), .int .i64 (p : Int)] w fun e w' => e = .returned (.int .i64 (m : Int)) ∧ St H g n w w' d' := by
  have mS : ∀ (w : World), (method 350 171 S "Less").run Tryz.prog w = .ok (203, S) w := fun w => by kernel_rfl
  have mT : ∀ (w : World), (method 350 171 S "Swap").run Tryz.prog w = .ok (204, S) w := fun w => by kernel_rfl
  have cS := less_calls S
  have cT := swap_calls S
  have st0 := St.start (g := g) (n := n) w d h hd
  have k0 := st0.swap X a p (by omega) (by omega)
  obtain ⟨D, hD⟩ : ∃ D, D = swp d a p := ⟨_, rfl⟩
  rw [← hD] at k0
  obtain ⟨A, hA⟩ : ∃ A, A = a + 1 := ⟨_, rfl⟩
  obtain ⟨B, hB⟩ : ∃ B, B = b - 1 := ⟨_, rfl⟩
  unfold partitionEqual at ho
  rw [← hD, ← hA, ← hB] at ho
  have HO := Lib.hid ho
  have a1 : a < A := by omega
  have a2 : A ≤ B + 1 := by omega
  have a3 : B < n := by omega
  have e1 : (a : Int) + 1 = A := by omega
  have e2 : (b : Int) - 1 = B := by omega
  clear st0 hD ho h hd hA hB
  go_enter Tryz.func166, Tryz.ntmps166
  go_upto_block 0 with (go_at_call 204; (with_reducible refine k0.mono ?_); rintro e w0 ⟨rfl, hs0⟩)
  go_wp2_with fail
  go_loopw [9, 10] (fun t9 t10 wr => ∃ (i j : Nat) (D' : Array α), t9 = .int .i64 (i : Int) ∧ t10 = .int .i64 (j : Int) ∧ a < i ∧ i ≤ j + 2 ∧ j < n ∧ Hid (partEqLoop lt a i j D' = (m, d')) ∧ St H g n w wr D') (fun t9 t10 _ => (intOf t10 + 3 - intOf t9).toNat)
  case atStart => exact ⟨A, B, _, rfl, rfl, a1, by omega, a3, HO, hs0⟩
  case round =>
    clear hs0 HO k0
    obtain ⟨i, j, D', rfl, rfl, b1, b2, b3, HL, hs5⟩ := hrel
    go_upto_block 2 with (fail)
    go_cut [9] (fun tv wx => ∃ xx : Nat, tv = .int .i64 (xx : Int) ∧ i ≤ xx ∧ xx ≤ j + 2 ∧ Hid (scanUp (fun x => !lt D'[a]! x) D' j i = xx) ∧ St H g n w wx D')
    case first =>
      go_wp2_with fail
      go_loopw [9] (fun tv wr => ∃ xx : Nat, tv = .int .i64 (xx : Int) ∧ i ≤ xx ∧ xx ≤ j + 2 ∧ Hid (scanUp (fun x => !lt D'[a]! x) D' j xx = scanUp (fun x => !lt D'[a]! x) D' j i) ∧ St H g n w wr D') (fun tv _ => ((j : Int) + 3 - intOf tv).toNat)
      case atStart => exact ⟨i, by first | rfl | (congr 1), Nat.le_refl _, by omega, Lib.hid rfl, hs5⟩
      case round =>
        clear hs5
        obtain ⟨xx, rfl, hi1, hi2, hF, hst⟩ := hrel
        by_cases hij : xx ≤ j
        · obtain ⟨q, hq⟩ : ∃ q, lt D'[a]! D'[xx]! = q := ⟨_, rfl⟩
          have k1 := hst.lessI X (a : Int) (xx : Int) a xx rfl rfl (by omega) (by omega) q hq
          have HQ := Lib.hid hq
          clear hq
          cases q with
          | false =>
            go_wp2_with (go_at_call 203; (with_reducible refine k1.mono ?_); rintro e wn ⟨rfl, hstn⟩)
            go_roundw
            case rel => exact ⟨xx + 1, by simp, by omega, by omega, Lib.hid (by have e := hF.out; rw [up_go _ _ _ _ hij (by simp [HQ.out])] at e; exact e), hstn⟩
            case measure => simp only [intOf]; omega
          | true =>
            go_wp2_with (go_at_call 203; (with_reducible refine k1.mono ?_); rintro e wn ⟨rfl, hstn⟩)
            go_meet
            case rel => exact ⟨xx, rfl, hi1, hi2, Lib.hid (by rw [← hF.out, up_end _ _ _ _ (.inr (by simp [HQ.out]))]), hstn⟩
        · go_wp2
          go_meet
          case rel => exact ⟨xx, rfl, hi1, hi2, Lib.hid (by rw [← hF.out, up_end _ _ _ _ (.inl hij)]), hst⟩
    case rest =>
    clear hs5
    obtain ⟨i2, rfl, i21, i22, i2H, hs6⟩ := hcut
    go_upto_block 4 with (fail)
    go_cut [10] (fun tv wx => ∃ yy : Nat, tv = .int .i64 (yy : Int) ∧ yy ≤ j ∧ i2 ≤ yy + 2 ∧ Hid (scanDown (fun x => lt D'[a]! x) D' i2 j = yy) ∧ St H g n w wx D')
    case first =>
      go_wp2_with fail
      go_loopw [10] (fun tv wr => ∃ yy : Nat, tv = .int .i64 (yy : Int) ∧ yy ≤ j ∧ i2 ≤ yy + 2 ∧ Hid (scanDown (fun x => lt D'[a]! x) D' i2 yy = scanDown (fun x => lt D'[a]! x) D' i2 j) ∧ St H g n w wr D') (fun tv _ => (intOf tv).toNat)
      case atStart => exact ⟨j, by first | rfl | (congr 1; omega), Nat.le_refl _, by omega, Lib.hid rfl, hs6⟩
      case round =>
        clear hs6
        obtain ⟨yy, rfl, hj1, hj2, hF, hst⟩ := hrel
        by_cases hij : i2 ≤ yy
        · obtain ⟨q, hq⟩ : ∃ q, lt D'[a]! D'[yy]! = q := ⟨_, rfl⟩
          have k1 := hst.lessI X (a : Int) (yy : Int) a yy rfl rfl (by omega) (by omega) q hq
          have HQ := Lib.hid hq
          clear hq
          cases q with
          | true =>
            go_wp2_with (go_at_call 203; (with_reducible refine k1.mono ?_); rintro e wn ⟨rfl, hstn⟩)
            go_roundw
            case rel => exact ⟨yy - 1, by congr 1; omega, by omega, by omega, Lib.hid (by have e := hF.out; rw [down_go _ _ _ _ hij (by omega) (by simp [HQ.out])] at e; exact e), hstn⟩
            case measure => simp only [intOf]; omega
          | false =>
            go_wp2_with (go_at_call 203; (with_reducible refine k1.mono ?_); rintro e wn ⟨rfl, hstn⟩)
            go_meet
            case rel => exact ⟨yy, rfl, hj1, hj2, Lib.hid (by rw [← hF.out, down_end _ _ _ _ (.inr (by simp [HQ.out]))]), hstn⟩
        · go_wp2
          go_meet
          case rel => exact ⟨yy, rfl, hj1, hj2, Lib.hid (by rw [← hF.out, down_end _ _ _ _ (.inl hij)]), hst⟩
    case rest =>
    clear hs6
    obtain ⟨j2, rfl, j21, j22, j2H, hs7⟩ := hcut
    have E := HL.out
    rw [partEqLoop_eq, i2H.out, j2H.out] at E
    by_cases hij2 : i2 > j2
    · rw [if_pos hij2] at E
      injection E with E1 E2
      subst E1 E2
      clear HL i2H j2H
      go_wp2
      go_ret
      exact ⟨rfl, hs7⟩
    · rw [if_neg hij2] at E
      have HE := Lib.hid E
      have k5 := hs7.swap X i2 j2 (by omega) (by omega)
      clear HL i2H j2H E
      go_wp2_with (go_at_call 204; (with_reducible refine k5.mono ?_); rintro e wn ⟨rfl, hsn⟩)
      go_roundw
      case rel => exact ⟨i2 + 1, j2 - 1, _, by simp, by congr 1; omega, by omega, by omega, by omega, HE, hsn⟩
      case measure => simp only [intOf]; omega
end
end
section
open Go.RowKit
open Go.Sort (swp scanSorted shiftDown shiftUp partialIns partialInsertionSort)
set_option maxRecDepth 100000
set_option maxHeartbeats 8000000
set_option linter.unusedVariables false
section
variable {α : Type} [Inhabited α] {S : Value} {lt : α → α → Bool} {n g : Nat} {H : World → Array α → Prop}
theorem sorted_go (d : Array α) (b i : Nat) (h : i < b) (hl : lt d[i]! d[i - 1]! = false) : scanSorted lt d b i = scanSorted lt d b (i + 1) := by
  rw [scanSorted, if_pos (by simp [h, hl])]
theorem sorted_end (d : Array α) (b i : Nat) (h : ¬ i < b ∨ lt d[i]! d[i - 1]! = true) : scanSorted lt d b i = i := by
  rw [scanSorted, if_neg (by rcases h with h | h <;> simp [h])]
theorem partial_any (X : Srt S lt n g H) (hn : n ≤ 1099511627776) (d : Array α) (a b : Nat) (hab : a < b) (hb : b ≤ n) (w : World) (h : H w d) (hd : d.size = n) (d' : Array α) (q0 : Bool) (ho : partialInsertionSort lt d a b = (d', q0)) :
    Calls Tryz.prog 165 #[.iface 171 S, .int .i64 (a : Int), .int .i64 (b : Int)] w fun e w' => e = .returned (.bool q0) ∧ St H g n w w' d' := by
  have mS : ∀ (w : World), (method 350 171 S "Less").run Tryz.prog w = .ok (203, S) w := fun w => by kernel_rfl
  have mT : ∀ (w : World), (method 350 171 S "Swap").run Tryz.prog w = .ok (204, S) w := fun w => by kernel_rfl
  have cS := less_calls S
  have cT := swap_calls S
  have st0 := St.start (g := g) (n := n) w d h hd
  unfold partialInsertionSort at ho
  have HO := Lib.hid ho
  clear ho h hd
  go_enter Tryz.func165, Tryz.ntmps165
  go_wp2
  go_loopw [7, 8] (fun t7 t8 wr => ∃ (i s : Nat) (D : Array α), t7 = .int .i64 (i : Int) ∧ t8 = .int .i64 (5 - (s : Int)) ∧ s ≤ 5 ∧ a < i ∧ i ≤ b ∧ Hid (partialIns lt a b s i D = (d', q0)) ∧ St H g n w wr D) (fun _ t8 _ => (5 - intOf t8).toNat)
  case atStart => exact ⟨a + 1, 5, d, by simp, by simp, by omega, by omega, by omega, HO, st0⟩
  case round =>
    clear st0 HO
    obtain ⟨i, s, D, rfl, rfl, hs, hi1, hi2, HL, hst⟩ := hrel
    cases s with
    | zero =>
      have E := HL.out
      rw [partialIns] at E
      injection E with E1 E2
      subst E1 E2
      go_wp2
      go_ret
      exact ⟨rfl, hst⟩
    | succ s =>
      obtain ⟨c, hc⟩ : ∃ c : Int, c = (5 : Int) - ((s + 1 : Nat) : Int) := ⟨_, rfl⟩
      rw [← hc]
      have z0 : c < 5 := by omega
      have z1 : -100 ≤ c := by omega
      have HC := Lib.hid hc
      clear hc
      go_upto_block 2 with (fail)
      go_cut [7] (fun tv wx => ∃ x : Nat, tv = .int .i64 (x : Int) ∧ i ≤ x ∧ x ≤ b ∧ Hid (scanSorted lt D b i = x) ∧ St H g n w wx D)
      case first =>
        go_wp2_with fail
        go_loopw [7] (fun tv wr => ∃ x : Nat, tv = .int .i64 (x : Int) ∧ i ≤ x ∧ x ≤ b ∧ Hid (scanSorted lt D b x = scanSorted lt D b i) ∧ St H g n w wr D) (fun tv _ => ((b : Int) - intOf tv).toNat)
        case atStart => exact ⟨i, rfl, Nat.le_refl _, hi2, Lib.hid rfl, hst⟩
        case round =>
          clear hst
          obtain ⟨x, rfl, hx1, hx2, hF, hst⟩ := hrel
          by_cases hxb : x < b
          · obtain ⟨q, hq⟩ : ∃ q, lt D[x]! D[x - 1]! = q := ⟨_, rfl⟩
            have k1 := hst.lessI X (x : Int) ((x : Int) - 1) x (x - 1) rfl (by omega) (by omega) (by omega) q hq
            have HQ := Lib.hid hq
            clear hq
            cases q with
            | false =>
              go_wp2_with (go_at_call 203; (with_reducible refine k1.mono ?_); rintro e wn ⟨rfl, hstn⟩)
              go_roundw
              case rel => exact ⟨x + 1, by simp, by omega, by omega, Lib.hid (by have e := hF.out; rw [sorted_go _ _ _ hxb HQ.out] at e; exact e), hstn⟩
              case measure => simp only [intOf]; omega
            | true =>
              go_wp2_with (go_at_call 203; (with_reducible refine k1.mono ?_); rintro e wn ⟨rfl, hstn⟩)
              go_meet
              case rel => exact ⟨x, rfl, hx1, hx2, Lib.hid (by rw [← hF.out, sorted_end _ _ _ (.inr HQ.out)]), hstn⟩
          · go_wp2
            go_meet
            case rel => exact ⟨x, rfl, hx1, hx2, Lib.hid (by rw [← hF.out, sorted_end _ _ _ (.inl hxb)]), hst⟩
      case rest =>
      clear hst
      obtain ⟨x, rfl, hx1, hx2, xH, hst⟩ := hcut
      have E := HL.out
      rw [partialIns] at E
      simp only [xH.out] at E
      by_cases hxb : x = b
      · subst hxb
        rw [if_pos rfl] at E
        injection E with E1 E2
        subst E1 E2
        clear HL xH
        go_wp2
        go_ret
        exact ⟨rfl, hst⟩
      rw [if_neg hxb] at E
      have nxb : ¬ (x : Int) = (b : Int) := by omega
      have nxb2 : ((x : Int) == (b : Int)) = false := beq_eq_false_iff_ne.2 nxb
      by_cases h50 : b - a < 50
      · rw [if_pos h50] at E
        injection E with E1 E2
        subst E1 E2
        have z50 : (b : Int) - a < 50 := by omega
        clear HL xH hxb
        go_wp2
        go_ret
        exact ⟨rfl, hst⟩
      rw [if_neg h50] at E
      have z50 : ¬ (b : Int) - a < 50 := by omega
      have HE := Lib.hid E
      clear E HL xH hxb
      have k2 := hst.swapI X (x : Int) ((x : Int) - 1) x (x - 1) rfl (by omega) (by omega) (by omega)
      obtain ⟨D1, hD1⟩ : ∃ D1, D1 = swp D x (x - 1) := ⟨_, rfl⟩
      rw [← hD1] at k2
      have H1 := Lib.hid hD1
      clear hD1 hst
      go_upto_if 45 with (go_at_call 204; (with_reducible refine k2.mono ?_); rintro e w2 ⟨rfl, hst⟩)
      go_cut [9] (fun tv wx => ∃ D2 : Array α, Hid (D2 = if x - a ≥ 2 then shiftDown lt (x - 1) D1 else D1) ∧ St H g n w wx D2)
      case first =>
        by_cases h2 : 2 ≤ x - a
        · have z2 : (2 : Int) ≤ (x : Int) - a := by omega
          simp only [decide_eq_true z2]
          go_wp2
          go_loopw [9] (fun tv wr => ∃ (j : Nat) (D2 : Array α), tv = .int .i64 (j : Int) ∧ j < x ∧ Hid (shiftDown lt j D2 = shiftDown lt (x - 1) D1) ∧ St H g n w wr D2) (fun tv _ => (intOf tv).toNat)
          case atStart => exact ⟨x - 1, D1, by congr 1; omega, by omega, Lib.hid rfl, hst⟩
          case round =>
            clear hst
            obtain ⟨j, D2, rfl, hj, hF, hst⟩ := hrel
            cases j with
            | zero =>
              go_wp2
              go_meet
              case rel => exact ⟨D2, Lib.hid (by rw [if_pos h2, ← hF.out]; rfl), hst⟩
            | succ j =>
              obtain ⟨q, hq⟩ : ∃ q, lt D2[j + 1]! D2[j]! = q := ⟨_, rfl⟩
              obtain ⟨z, hz⟩ : ∃ z : Int, z = ((j + 1 : Nat) : Int) := ⟨_, rfl⟩
              rw [← hz]
              have z3 : 1 ≤ z := by omega
              have z4 : z < n := by omega
              have k1 := hst.lessI X z (z - 1) (j + 1) j hz (by omega) (by omega) (by omega) q hq
              have F := hF.out
              rw [shiftDown, hq] at F
              have HF := Lib.hid F
              have HZ := Lib.hid hz
              clear hq hF F
              cases q with
              | false =>
                clear hz
                go_wp2_with (go_at_call 203; (with_reducible refine k1.mono ?_); rintro e wn ⟨rfl, hstn⟩)
                go_meet
                case rel => exact ⟨D2, Lib.hid (by rw [if_pos h2, ← HF.out]; rfl), hstn⟩
              | true =>
                clear hz
                go_wp2_with (first
                  | (go_at_call 203; (with_reducible refine k1.mono ?_); rintro e wn ⟨rfl, hstn⟩
                     have k5 := hstn.swapI X z (z - 1) (j + 1) j HZ.out (by have := HZ.out; omega) (by omega) (by omega))
                  | (go_at_call 204; (with_reducible refine k5.mono ?_); rintro e wm ⟨rfl, hstm⟩))
                go_roundw
                case rel => exact ⟨j, _, by congr 1; have := HZ.out; omega, by omega, Lib.hid (by have e := HF.out; simpa using e), hstm⟩
                case measure => have := HZ.out; simp only [intOf]; omega
        · have z2 : ¬ (2 : Int) ≤ (x : Int) - a := by omega
          simp only [decide_eq_false z2]
          go_wp2
          go_meet
          case rel => exact ⟨D1, Lib.hid (by rw [if_neg h2]), hst⟩
      case rest =>
      clear hst
      obtain ⟨D2, H2, hst⟩ := hcut
      go_upto_if 66 with (fail)
      by_cases h2 : 2 ≤ b - x
      · have z2 : (2 : Int) ≤ (b : Int) - x := by omega
        simp only [decide_eq_true z2]
        go_wp2
        go_loopw [10] (fun tv wr => ∃ (j : Nat) (D3 : Array α), tv = .int .i64 (j : Int) ∧ x < j ∧ j ≤ b ∧ Hid (shiftUp lt b j D3 = shiftUp lt b (x + 1) D2) ∧ St H g n w wr D3) (fun tv _ => ((b : Int) - intOf tv).toNat)
        case atStart => exact ⟨x + 1, D2, by simp, by omega, by omega, Lib.hid rfl, hst⟩
        case round =>
          clear hst
          obtain ⟨j, D3, rfl, hj1, hj2, hF, hst⟩ := hrel
          by_cases hjb : j < b
          · obtain ⟨q, hq⟩ : ∃ q, lt D3[j]! D3[j - 1]! = q := ⟨_, rfl⟩
            have k1 := hst.lessI X (j : Int) ((j : Int) - 1) j (j - 1) rfl (by omega) (by omega) (by omega) q hq
            have F := hF.out
            rw [shiftUp, if_pos hjb, hq] at F
            have HF := Lib.hid F
            clear hq hF F
            cases q with
            | false =>
              go_wp2_with (go_at_call 203; (with_reducible refine k1.mono ?_); rintro e wn ⟨rfl, hstn⟩)
              go_roundw
              case rel => exact ⟨x, s, D3, rfl, by congr 1; have := HC.out; omega, by omega, by omega, by omega, Lib.hid (by have e := HE.out; rw [← H1.out, ← H2.out] at e; rw [if_pos h2, ← HF.out] at e; exact e), hstn⟩
              case measure => have := HC.out; simp only [intOf]; omega
            | true =>
              go_wp2_with (first
                | (go_at_call 203; (with_reducible refine k1.mono ?_); rintro e wn ⟨rfl, hstn⟩
                   have k5 := hstn.swapI X (j : Int) ((j : Int) - 1) j (j - 1) rfl (by omega) (by omega) (by omega))
                | (go_at_call 204; (with_reducible refine k5.mono ?_); rintro e wm ⟨rfl, hstm⟩))
              go_roundw
              case rel => exact ⟨j + 1, _, by simp, by omega, by omega, Lib.hid (by have e := HF.out; simpa using e), hstm⟩
              case measure => simp only [intOf]; omega
          · have F := hF.out
            rw [shiftUp, if_neg hjb] at F
            have HF := Lib.hid F
            clear hF F
            go_wp2
            go_roundw
            case rel => exact ⟨x, s, D3, rfl, by congr 1; have := HC.out; omega, by omega, by omega, by omega, Lib.hid (by have e := HE.out; rw [← H1.out, ← H2.out] at e; rw [if_pos h2, ← HF.out] at e; exact e), hst⟩
            case measure => have := HC.out; simp only [intOf]; omega
      · have z2 : ¬ (2 : Int) ≤ (b : Int) - x := by omega
        simp only [decide_eq_false z2]
        go_wp2
        go_roundw
        case rel => exact ⟨x, s, D2, rfl, by congr 1; have := HC.out; omega, by omega, by omega, by omega, Lib.hid (by have e := HE.out; rw [← H1.out, ← H2.out] at e; rw [if_neg h2] at e; exact e), hst⟩
        case measure => have := HC.out; simp only [intOf]; omega
end
end
section
open Go.Sort (swp SWO PermIn SortedIn permIn_trans permIn_refl)
section
variable {α : Type} [Inhabited α] {lt : α → α → Bool}
/-- the part [x, y) of D is left: whatever sorts it sorts [a, b) of d -/
structure Lft (lt : α → α → Bool) (a b : Nat) (d : Array α) (x y : Nat) (D : Array α) : Prop where
  ord : x ≤ y
  top : y ≤ D.size
  low : Go.Sort.Below lt x y D
  fin : ∀ R, PermIn x y D R → SortedIn lt x y R → PermIn a b d R ∧ SortedIn lt a b R
theorem Lft.start {a b : Nat} {d : Array α} (hab : a ≤ b) (hb : b ≤ d.size) (hl : Go.Sort.Below lt a b d) : Lft lt a b d a b d := ⟨hab, hb, hl, fun _ h k => ⟨h, k⟩⟩
theorem Lft.perm {a b x y : Nat} {d D D' : Array α} (h : Lft lt a b d x y D) (hp : PermIn x y D D') : Lft lt a b d x y D' :=
  ⟨h.ord, by rw [hp.1]; exact h.top, h.low.perm h.top hp, fun R hR hs => h.fin R (permIn_trans _ _ _ x y hp hR) hs⟩
theorem Lft.eq (hO : SWO lt) {a b x y p mid : Nat} {d D D' : Array α} (h : Lft lt a b d x y D) (hx : 0 < x) (hp1 : x ≤ p) (hp2 : p < y) (hnl : lt D[x - 1]! D[p]! = false) (he : Go.Sort.partitionEqual lt D x y p = (mid, D')) :
    x < mid ∧ Lft lt a b d mid y D' := by
  obtain ⟨h1, h2, h3, h4, h5⟩ := Go.Sort.round_eq hO (Go.Sort.partitionEqual_holds lt) hx hp1 hp2 h.top h.low hnl he
  exact ⟨h1, h2, by rw [h3]; exact h.top, h4, fun R hR hs => by obtain ⟨q1, q2⟩ := h5 R hR hs; exact h.fin R q1 q2⟩
theorem Lft.part (hO : SWO lt) {a b x y p mid : Nat} {q : Bool} {d D D' : Array α} (h : Lft lt a b d x y D) (hp1 : x ≤ p) (hp2 : p < y) (he : Go.Sort.partition lt D x y p = (mid, q, D')) :
    x ≤ mid ∧ mid < y ∧ y ≤ D'.size ∧ Go.Sort.Below lt x mid D' ∧ Go.Sort.Below lt (mid + 1) y D' ∧
    (∀ L, PermIn x mid D' L → SortedIn lt x mid L → Lft lt a b d (mid + 1) y L) ∧ (∀ L, PermIn (mid + 1) y D' L → SortedIn lt (mid + 1) y L → Lft lt a b d x mid L) := by
  obtain ⟨h1, h2, h3, h4, h5, h6, h7⟩ := Go.Sort.round_part hO (Go.Sort.partition_holds lt) hp1 hp2 h.top h.low he
  have ht := h.top
  refine ⟨h1, h2, by rw [h3]; exact ht, h4, h5, fun L hL hs => ?_, fun L hL hs => ?_⟩
  · obtain ⟨b1, b2⟩ := h6 L hL hs
    exact ⟨by omega, by rw [hL.1, h3]; exact ht, b1, fun R hR hs' => by obtain ⟨q1, q2⟩ := b2 R hR hs'; exact h.fin R q1 q2⟩
  · obtain ⟨b1, b2⟩ := h7 L hL hs
    exact ⟨h1, by rw [hL.1, h3]; omega, b1, fun R hR hs' => by obtain ⟨q1, q2⟩ := b2 R hR hs'; exact h.fin R q1 q2⟩
end
end
section
open Go.RowKit
open Go.Sort (swp SWO PermIn SortedIn Hint)
set_option maxRecDepth 100000
set_option maxHeartbeats 16000000
set_option linter.unusedVariables false
section
variable {α : Type} [Inhabited α] {S : Value} {lt : α → α → Bool} {n g : Nat} {H : World → Array α → Prop}
theorem hintI_two {h : Hint} : (hintI h = 2) ↔ h = .decreasing := by cases h <;> simp [hintI]
theorem hintI_cases (h : Hint) : hintI h = 0 ∨ hintI h = 1 ∨ hintI h = 2 := by cases h <;> simp [hintI]
/-- one frame of pdqsort, out of the frames of shorter parts -/
theorem pdq_step (X : Srt S lt n g H) (hn : n < 256) (hO : SWO lt) (N : Nat) (ih : ∀ (a b lim : Nat) (d : Array α) (w : World), b - a < N → a ≤ b → b ≤ n → lim ≤ 1000 → H w d → d.size = n → Go.Sort.Below lt a b d →
    Calls Tryz.prog 141 #[.iface 171 S, .int .i64 (a : Int), .int .i64 (b : Int), .int .i64 (lim : Int)] w fun e w' => e = .returned (.tuple #[]) ∧ ∃ d', St H g n w w' d' ∧ PermIn a b d d' ∧ SortedIn lt a b d') (a b lim : Nat) (d : Array α) (w : World) (hN : b - a < N + 1) (hab : a ≤ b) (hb : b ≤ n) (hlim : lim ≤ 1000) (h : H w d) (hd : d.size = n) (hlow : Go.Sort.Below lt a b d) :
    Calls Tryz.prog 141 #[.iface 171 S, .int .i64 (a : Int), .int .i64 (b : Int), .int .i64 (lim : Int)] w fun e w' => e = .returned (.tuple #[]) ∧ ∃ d', St H g n w w' d' ∧ PermIn a b d d' ∧ SortedIn lt a b d' := by
    have mS : ∀ (w : World), (method 350 171 S "Less").run Tryz.prog w = .ok (203, S) w := fun w => by kernel_rfl
    have cS := less_calls S
    have c44 : ∀ (a b c : Int) (w : World), (callFunc 141 #[.iface 171 S, .int .i64 a, .int .i64 b, .int .i64 c]).run Tryz.prog w = .ok (.enter 141 #[.iface 171 S, .int .i64 a, .int .i64 b, .int .i64 c]) w := fun a b c w => by kernel_rfl
    have st0 := St.start (g := g) (n := n) w d h hd
    have hn2 : n ≤ 1099511627776 := by omega
    have lf0 := Lft.start (lt := lt) hab (by rw [hd]; exact hb) hlow
    have IH := Lib.hid ih
    have HD := Lib.hid hd
    clear ih h hd hlow
    go_enter Tryz.func141, Tryz.ntmps141
    go_wp2
    go_loopw [1, 2, 3, 8, 9] (fun t1 t2 t3 t8 t9 wr => ∃ (x y l : Nat) (D : Array α) (wb wp : Bool), t1 = .int .i64 (x : Int) ∧ t2 = .int .i64 (y : Int) ∧ t3 = .int .i64 (l : Int) ∧ t8 = .bool wb ∧ t9 = .bool wp ∧ y - x < N + 1 ∧ y ≤ n ∧ l ≤ 1000 ∧ Lft lt a b d x y D ∧ St H g n w wr D) (fun t1 t2 _ _ _ _ => (intOf t2 - intOf t1).toNat)
    case atStart => exact ⟨a, b, lim, d, true, true, rfl, rfl, rfl, rfl, rfl, hN, hb, hlim, lf0, st0⟩
    case round =>
      clear st0 lf0 hN hab hlim hb
      obtain ⟨x, y, l, D, wb, wp, rfl, rfl, rfl, rfl, rfl, hN, hy, hl, hlf, hst⟩ := hrel
      have hxy := hlf.ord
      have LF := Lib.hid hlf
      clear hlf
      by_cases h12 : y - x ≤ 12
      · have k := ins_any X hn2 D x y hxy hy wr hst.holds hst.size
        have z1 : (y : Int) - x ≤ 12 := by omega
        go_wp2_with (go_at_call 160; (with_reducible refine k.mono ?_); rintro e w1 ⟨rfl, hs1⟩)
        (try simp only [Exit.inBlock, Exit.then])
        refine bodyPost_ret (results_none rfl _ _ _) rfl ?_
        have f := Go.Sort.insertionSort_holds hO D x y hxy LF.out.top
        exact ⟨rfl, _, hst.trans hs1, LF.out.fin _ f.1 f.2⟩
      have z1 : ¬ (y : Int) - x ≤ 12 := by omega
      by_cases hl0 : l = 0
      · subst hl0
        have k := heap_any X hn2 D x y (by omega) hy wr hst.holds hst.size
        go_wp2_with (go_at_call 161; (with_reducible refine k.mono ?_); rintro e w1 ⟨rfl, hs1⟩)
        (try simp only [Exit.inBlock, Exit.then])
        refine bodyPost_ret (results_none rfl _ _ _) rfl ?_
        have f := Go.Sort.heapSort_holds hO D x y hxy LF.out.top
        exact ⟨rfl, _, hst.trans hs1, LF.out.fin _ f.1 f.2⟩
      have z2 : ¬ (l : Int) = 0 := by omega
      have z3 : ((l : Int) == 0) = false := beq_eq_false_iff_ne.2 z2
      go_upto_if 35 with (fail)
      go_cut [3] (fun tv wx => ∃ (l' : Nat) (D' : Array α), tv = .int .i64 (l' : Int) ∧ l' ≤ 1000 ∧ Hid (Lft lt a b d x y D') ∧ St H g n w wx D')
      case first =>
        cases wb with
        | true =>
          simp only [Bool.not_true]
          go_wp2
          go_meet
          case rel => exact ⟨l, D, rfl, hl, LF, hst⟩
        | false =>
          simp only [Bool.not_false]
          have k := break_any X hn D x y (by omega) hy wr hst.holds hst.size
          go_wp2_with (go_at_call 162; (with_reducible refine k.mono ?_); rintro e w1 ⟨rfl, hs1⟩)
          go_meet
          case rel => exact ⟨l - 1, _, by congr 1; omega, by omega, Lib.hid (LF.out.perm (Go.Sort.breakPatterns_holds D x y hxy LF.out.top)), hst.trans hs1⟩
      case rest =>
      clear hst LF hl hl0 z2 z3
      obtain ⟨l', D', rfl, hl, LF, hst⟩ := hcut
      obtain ⟨p, hh, hc⟩ : ∃ p hh, Go.Sort.choosePivot lt D' x y = (p, hh) := ⟨_, _, rfl⟩
      have hc0 := Go.Sort.choosePivot_holds lt D' x y (by omega)
      rw [hc] at hc0
      obtain ⟨p1, p2⟩ : x ≤ p ∧ p < y := hc0
      have k := pivot_any X hn2 D' x y (by omega) hy wc hst.holds hst.size p hh hc
      obtain ⟨hv, hhv⟩ : ∃ hv, hv = hintI hh := ⟨_, rfl⟩
      rw [← hhv] at k
      have hv3 : hv = 0 ∨ hv = 1 ∨ hv = 2 := by rw [hhv]; exact hintI_cases hh
      have HV3 := Lib.hid hv3
      clear hc hhv hv3
      go_upto_if 50 with (go_at_call 163; (with_reducible refine k.mono ?_); rintro e w1 ⟨rfl, hs1⟩)
      have hst := hst.trans hs1
      go_cut [11, 12] (fun tv th wx => ∃ (p' : Nat) (hq : Int) (D' : Array α), tv = .int .i64 (p' : Int) ∧ th = .int .i64 hq ∧ x ≤ p' ∧ p' < y ∧ Hid (hq = 0 ∨ hq = 1) ∧ Hid (Lft lt a b d x y D') ∧ St H g n w wx D')
      case first =>
        by_cases h2 : hv = 2
        · subst h2
          have k2 := reverse_any X hn2 D' x y (by omega) hy w1 hst.holds hst.size
          clear k
          go_wp2_with (go_at_call 164; (with_reducible refine k2.mono ?_); rintro e w2 ⟨rfl, hs2⟩)
          go_meet
          case rel => exact ⟨(y - 1) - (p - x), 1, _, by congr 1; omega, rfl, by omega, by omega, Lib.hid (.inr rfl), Lib.hid (LF.out.perm (Go.Sort.reverseRange_holds D' x y hxy LF.out.top)), hst.trans hs2⟩
        · have z2 : (hv == 2) = false := beq_eq_false_iff_ne.2 h2
          clear k
          (try simp only [z2])
          go_wp2
          go_meet
          case rel => exact ⟨p, hv, D', rfl, rfl, p1, p2, Lib.hid (by rcases HV3.out with e | e | e; exact .inl e; exact .inr e; exact absurd e h2), LF, hst⟩
      case rest =>
      clear hst LF hs1 k p1 p2 HV3
      obtain ⟨p, hq, D', rfl, rfl, p1, p2, HQ, LF, hst⟩ := hcut
      obtain ⟨q, hqq⟩ : ∃ q, q = (wb && wp && decide (hq = 1)) := ⟨_, rfl⟩
      have QQ := Lib.hid hqq
      clear hqq
      go_upto_region 15 with (fail)
      go_cut [68] (fun tv wx => tv = .bool q ∧ St H g n w wx D')
      case first =>
        cases wb with
        | false =>
          go_wp2
          go_meet
          case rel => exact ⟨by rw [QQ.out]; rfl, hst⟩
        | true =>
          cases wp with
          | false =>
            go_wp2
            go_meet
            case rel => exact ⟨by rw [QQ.out]; rfl, hst⟩
          | true =>
            rcases HQ.out with e | e
            · subst e
              go_wp2
              go_meet
              case rel => exact ⟨by rw [QQ.out]; rfl, hst⟩
            · subst e
              go_wp2
              go_meet
              case rel => exact ⟨by rw [QQ.out]; rfl, hst⟩
      case rest =>
      clear hst QQ
      obtain ⟨rfl, hst⟩ := hcut
      go_upto_if 68 with (fail)
      go_cut [11] (fun tv wx => tv = .int .i64 (p : Int) ∧ ∃ D' : Array α, Hid (Lft lt a b d x y D') ∧ St H g n w wx D')
      case first =>
        cases q with
        | false =>
          go_wp2
          go_meet
          case rel => exact ⟨rfl, D', LF, hst⟩
        | true =>
          obtain ⟨D2, q0, ho⟩ : ∃ D2 q0, Go.Sort.partialInsertionSort lt D' x y = (D2, q0) := ⟨_, _, rfl⟩
          have k := partial_any X hn2 D' x y (by omega) hy wc hst.holds hst.size D2 q0 ho
          have f := Go.Sort.partialInsertionSort_holds hO D' x y (by omega) LF.out.top LF.out.low
          rw [ho] at f
          have HF := Lib.hid f
          clear ho f
          cases q0 with
          | true =>
            go_wp2_with (go_at_call 165; (with_reducible refine k.mono ?_); rintro e w1 ⟨rfl, hs1⟩)
            (try simp only [Exit.inBlock, Exit.then])
            refine bodyPost_ret (results_none rfl _ _ _) rfl ?_
            exact ⟨rfl, _, hst.trans hs1, LF.out.fin _ HF.out.1 (HF.out.2 (by first | rfl | trivial))⟩
          | false =>
            go_wp2_with (go_at_call 165; (with_reducible refine k.mono ?_); rintro e w1 ⟨rfl, hs1⟩)
            go_meet
            case rel => exact ⟨rfl, D2, Lib.hid (LF.out.perm HF.out.1), hst.trans hs1⟩
      case rest =>
      clear hst LF
      obtain ⟨rfl, D', LF, hst⟩ := hcut
      obtain ⟨r, hr⟩ : ∃ r, lt D'[x - 1]! D'[p]! = r := ⟨_, rfl⟩
      have HR := Lib.hid hr
      obtain ⟨qe, hqe⟩ : ∃ qe, qe = (decide (0 < x) && !r) := ⟨_, rfl⟩
      have QE := Lib.hid hqe
      clear hr hqe
      go_upto_region 17 with (fail)
      go_cut [82] (fun tv wx => tv = .bool qe ∧ St H g n w wx D')
      case first =>
        by_cases hx : 0 < x
        · have k1 := hst.lessI X ((x : Int) - 1) (p : Int) (x - 1) p (by omega) rfl (by omega) (by omega) r HR.out
          have zx : (0 : Int) < x := by omega
          cases r with
          | false =>
            go_wp2_with (go_at_call 203; (with_reducible refine k1.mono ?_); rintro e w1 ⟨rfl, hs1⟩)
            go_meet
            case rel => exact ⟨by rw [QE.out, decide_eq_true hx]; rfl, hs1⟩
          | true =>
            go_wp2_with (go_at_call 203; (with_reducible refine k1.mono ?_); rintro e w1 ⟨rfl, hs1⟩)
            go_meet
            case rel => exact ⟨by rw [QE.out]; simp, hs1⟩
        · have zx : ¬ (0 : Int) < x := by omega
          go_wp2
          go_meet
          case rel => exact ⟨by rw [QE.out, decide_eq_false hx]; rfl, hst⟩
      case rest =>
      clear hst
      obtain ⟨rfl, hst⟩ := hcut
      cases qe with
      | true =>
        obtain ⟨m, D4, he⟩ : ∃ m D4, Go.Sort.partitionEqual lt D' x y p = (m, D4) := ⟨_, _, rfl⟩
        have k := equal_any X hn2 D' x y p p1 p2 hy wc hst.holds hst.size m D4 he
        have f : 0 < x ∧ r = false := by
          have e := QE.out
          rw [eq_comm, Bool.and_eq_true, decide_eq_true_eq, Bool.not_eq_true'] at e
          exact e
        have hm := LF.out.eq hO f.1 p1 p2 (by rw [HR.out]; exact f.2) he
        have hm1 := hm.1
        have hm2 := hm.2.ord
        have LF2 := Lib.hid hm.2
        clear he f hm QE HR
        go_wp2_with (go_at_call 166; (with_reducible refine k.mono ?_); rintro e w1 ⟨rfl, hs1⟩)
        go_roundw
        case rel => exact ⟨m, y, l', D4, wb, wp, rfl, rfl, rfl, rfl, rfl, by omega, hy, hl, LF2.out, hst.trans hs1⟩
        case measure => simp only [intOf]; omega
      | false =>
        obtain ⟨m, qp, D4, he⟩ : ∃ m qp D4, Go.Sort.partition lt D' x y p = (m, qp, D4) := ⟨_, _, _, rfl⟩
        have k := part_any X hn2 D' x y p p1 p2 hy wc hst.holds hst.size m qp D4 he
        obtain ⟨g1, g2, g3, g4, g5, g6, g7⟩ := LF.out.part hO p1 p2 he
        have G4 := Lib.hid g4; have G5 := Lib.hid g5; have G6 := Lib.hid g6; have G7 := Lib.hid g7
        clear he QE HR g4 g5 g6 g7
        by_cases hlr : m - x < y - m
        · have zl : (m : Int) - x < y - m := by omega
          go_wp2_with (first
            | (go_at_call 167; (with_reducible refine k.mono ?_); rintro e w1 ⟨rfl, hs1⟩
               have k2 := IH.out x m l' D4 w1 (by omega) g1 (by omega) hl hs1.holds hs1.size G4.out)
            | (go_at_call 141; (with_reducible refine k2.mono ?_); rintro e w2 ⟨rfl, D5, hs2, hp, hso⟩))
          go_roundw
          case rel => exact ⟨m + 1, y, l', D5, _, qp, by simp, rfl, rfl, rfl, rfl, by omega, hy, hl, G6.out D5 hp hso, (hst.trans hs1).trans hs2⟩
          case measure => simp only [intOf]; omega
        · have zl : ¬ (m : Int) - x < y - m := by omega
          go_wp2_with (first
            | (go_at_call 167; (with_reducible refine k.mono ?_); rintro e w1 ⟨rfl, hs1⟩
               have k2 := IH.out (m + 1) y l' D4 w1 (by omega) (by omega) hy hl hs1.holds hs1.size G5.out
               rw [show ((m + 1 : Nat) : Int) = (m : Int) + 1 by omega] at k2)
            | (go_at_call 141; (with_reducible refine k2.mono ?_); rintro e w2 ⟨rfl, D5, hs2, hp, hso⟩))
          go_roundw
          case rel => exact ⟨x, m, l', D5, _, qp, rfl, rfl, rfl, rfl, rfl, by omega, by omega, hl, G7.out D5 hp hso, (hst.trans hs1).trans hs2⟩
          case measure => simp only [intOf]; omega
theorem pdq_any (X : Srt S lt n g H) (hn : n < 256) (hO : SWO lt) (N : Nat) : ∀ (a b lim : Nat) (d : Array α) (w : World), b - a < N → a ≤ b → b ≤ n → lim ≤ 1000 → H w d → d.size = n → Go.Sort.Below lt a b d →
    Calls Tryz.prog 141 #[.iface 171 S, .int .i64 (a : Int), .int .i64 (b : Int), .int .i64 (lim : Int)] w fun e w' => e = .returned (.tuple #[]) ∧ ∃ d', St H g n w w' d' ∧ PermIn a b d d' ∧ SortedIn lt a b d' := by
  induction N with
  | zero => exact fun a b _ _ _ hN => absurd hN (by omega)
  | succ N ih => exact pdq_step X hn hO N ih
end
end
end Go.Proofs.YtcedfapcpmedfaaGreatDoor
