/- A value with the methods Less and Swap over a row of the heap; insertionSort. Conditions: the row's length is at most 2^40, the places lie in it. -/
import Derived.Test.YtjiiploleinobaaSeat
import Derived.Sort.Defs
namespace Go.Proofs.Ytjiiploleinobaa
open Go.RowKit
open Go.Sort (swp insInner insOuter insertionSort)
set_option maxRecDepth 100000
set_option maxHeartbeats 4000000
set_option linter.unusedVariables false
section
variable {α : Type} {g n : Nat} {H : World → Array α → Prop}
/-- the row holds d; nothing else of what was there has changed -/
structure St {α : Type} (H : World → Array α → Prop) (g n : Nat) (w W : World) (d : Array α) : Prop where
  holds : H W d
  size : d.size = n
  kp : Kp (fun k => k = g) w W
theorem St.start (w : World) (d : Array α) (h : H w d) (hd : d.size = n) : St H g n w w d := ⟨h, hd, Kp.refl _ _⟩
theorem St.trans {w W W' : World} {d d' : Array α} (h : St H g n w W d) (k : St H g n W W' d') : St H g n w W' d' := ⟨k.holds, k.size, Kp.trans h.kp k.kp⟩
end
section
variable {α : Type} [Inhabited α]
/-- what is asked of the value S: its methods read and swap the row of n elements that the heap's block g holds -/
structure Srt (S : Value) (lt : α → α → Bool) (n g : Nat) (H : World → Array α → Prop) : Prop where
  keep : ∀ {W W' : World} {d : Array α}, H W d → W'.heap[g]? = W.heap[g]? → H W' d
  dom : ∀ {W : World} {d : Array α}, H W d → g < W.heap.size
  less : ∀ (W : World) (d : Array α) (i j : Nat), H W d → d.size = n → i < n → j < n → Calls Try.prog 81 #[S, .int .i64 (i : Int), .int .i64 (j : Int)] W fun e w' => e = .returned (.bool (lt d[i]! d[j]!)) ∧ Below W.heap.size W w'
  swap : ∀ (W : World) (d : Array α) (i j : Nat), H W d → d.size = n → i < n → j < n → Calls Try.prog 82 #[S, .int .i64 (i : Int), .int .i64 (j : Int)] W fun e w' => e = .returned (.tuple #[]) ∧ H w' (swp d i j) ∧ Kp (fun k => k = g) W w'
variable {S : Value} {lt : α → α → Bool} {n g : Nat} {H : World → Array α → Prop}
theorem St.below (X : Srt S lt n g H) {w W W' : World} {d : Array α} (h : St H g n w W d) (hb : Below W.heap.size W W') : St H g n w W' d :=
  ⟨X.keep h.holds (hb.block g (X.dom h.holds)), h.size, Kp.trans h.kp (Kp.ofBelow hb)⟩
theorem St.less (X : Srt S lt n g H) {w W : World} {d : Array α} (h : St H g n w W d) (i j : Nat) (hi : i < n) (hj : j < n) (q : Bool) (hq : lt d[i]! d[j]! = q) :
    Calls Try.prog 81 #[S, .int .i64 (i : Int), .int .i64 (j : Int)] W fun e w' => e = .returned (.bool q) ∧ St H g n w w' d :=
  (X.less W d i j h.holds h.size hi hj).mono fun _ _ ⟨he, hb⟩ => ⟨by rw [he, hq], h.below X hb⟩
theorem swp_size (d : Array α) (i j : Nat) : (swp d i j).size = d.size := by simp [swp]
theorem St.swap (X : Srt S lt n g H) {w W : World} {d : Array α} (h : St H g n w W d) (i j : Nat) (hi : i < n) (hj : j < n) :
    Calls Try.prog 82 #[S, .int .i64 (i : Int), .int .i64 (j : Int)] W fun e w' => e = .returned (.tuple #[]) ∧ St H g n w w' (swp d i j) :=
  (X.swap W d i j h.holds h.size hi hj).mono fun _ _ ⟨he, hh, hk⟩ => ⟨he, hh, by rw [swp_size, h.size], Kp.trans h.kp hk⟩
theorem St.lessI (X : Srt S lt n g H) {w W : World} {d : Array α} (h : St H g n w W d) (x y : Int) (i j : Nat) (hx : x = i) (hy : y = j) (hi : i < n) (hj : j < n) (q : Bool) (hq : lt d[i]! d[j]! = q) :
    Calls Try.prog 81 #[S, .int .i64 x, .int .i64 y] W fun e w' => e = .returned (.bool q) ∧ St H g n w w' d := by
  subst hx hy; exact h.less X i j hi hj q hq
theorem St.swapI (X : Srt S lt n g H) {w W : World} {d : Array α} (h : St H g n w W d) (x y : Int) (i j : Nat) (hx : x = i) (hy : y = j) (hi : i < n) (hj : j < n) :
    Calls Try.prog 82 #[S, .int .i64 x, .int .i64 y] W fun e w' => e = .returned (.tuple #[]) ∧ St H g n w w' (swp d i j) := by
  subst hx hy; exact h.swap X i j hi hj
theorem swap_calls (S : Value) (a : Int) (b : Int) (w : World) : (callFunc 82 #[S, .int .i64 a, .int .i64 b]).run Try.prog w = .ok (.enter 82 #[S, .int .i64 a, .int .i64 b]) w := by kernel_rfl
theorem less_calls (S : Value) (a : Int) (b : Int) (w : World) : (callFunc 81 #[S, .int .i64 a, .int .i64 b]).run Try.prog w = .ok (.enter 81 #[S, .int .i64 a, .int .i64 b]) w := by kernel_rfl
theorem insInner_a (lt : α → α → Bool) (a : Nat) (d : Array α) : insInner lt a a d = d := by
  cases a with
  | zero => rfl
  | succ a => simp [insInner]
theorem ins_any (X : Srt S lt n g H) (hn : n ≤ 1099511627776) (d : Array α) (a b : Nat) (hab : a ≤ b) (hb : b ≤ n) (w : World) (h : H w d) (hd : d.size = n) :
    Calls Try.prog 49 #[.iface 64 S, .int .i64 (a : Int), .int .i64 (b : Int)] w fun e w' => e = .returned (.tuple #[]) ∧ St H g n w w' (insertionSort lt d a b) := by
  have mS : ∀ (w : World), (method 213 64 S "Less").run Try.prog w = .ok (81, S) w := fun w => by kernel_rfl
  have mT : ∀ (w : World), (method 213 64 S "Swap").run Try.prog w = .ok (82, S) w := fun w => by kernel_rfl
  have cS := less_calls S
  have cT := swap_calls S
  have st0 := St.start (g := g) (n := n) w d h hd
  have Hn := Lib.hid hn
  have Hd := Lib.hid hd
  clear h hd
  go_enter Try.func49, Try.ntmps49
  go_wp2
  go_loopw [6] (fun t6 wr => ∃ (i : Nat) (d' : Array α), t6 = .int .i64 (i : Int) ∧ a + 1 ≤ i ∧ (i ≤ b ∨ i = a + 1) ∧ Hid (insOuter lt a b i d' = insertionSort lt d a b) ∧ St H g n w wr d') (fun t6 _ => b - (intOf t6).toNat)
  case atStart => exact ⟨a + 1, d, by simp, Nat.le_refl _, .inr rfl, Lib.hid rfl, st0⟩
  case round =>
    clear st0
    obtain ⟨i, d', rfl, hi1, hi2, hE, hst⟩ := hrel
    by_cases hib : i < b
    · go_wp2
      go_loopw [7] (fun t7 wq => ∃ (j : Nat) (d'' : Array α), t7 = .int .i64 (j : Int) ∧ a ≤ j ∧ j ≤ i ∧ Hid (insInner lt a j d'' = insInner lt a i d') ∧ St H g n w wq d'') (fun t7 _ => (intOf t7).toNat)
      case atStart => exact ⟨i, d', rfl, by omega, Nat.le_refl _, Lib.hid rfl, hst⟩
      case round =>
        clear hst
        obtain ⟨j, d'', rfl, hj1, hj2, hF, hst⟩ := hrel
        by_cases hja : a < j
        · obtain ⟨q, hq⟩ : ∃ q, lt d''[j]! d''[j - 1]! = q := ⟨_, rfl⟩
          have k1 := hst.lessI X (j : Int) ((j : Int) - 1) j (j - 1) rfl (by omega) (by omega) (by omega) q hq
          have F : insInner lt a j d'' = if q = true then insInner lt a (j - 1) (swp d'' j (j - 1)) else d'' := by
            obtain ⟨m, rfl⟩ : ∃ m, j = m + 1 := ⟨j - 1, by omega⟩
            rw [Nat.add_sub_cancel] at hq ⊢
            rw [insInner, hq]
            have : (decide (m + 1 > a) && q) = q := by simp [hja]
            rw [this]
          have HF := Lib.hid F
          clear F hq
          cases q with
          | false =>
            go_wp2_with (go_at_call 81; (with_reducible refine k1.mono ?_); rintro e w1 ⟨rfl, hst1⟩)
            go_roundw
            case rel => exact ⟨i + 1, d'', by simp, by omega, by omega, Lib.hid (by have e := hE.out; rw [insOuter, if_pos hib, ← hF.out, HF.out] at e; exact e), hst1⟩
            case measure => simp [intOf]; omega
          | true =>
            go_wp2_with (first
              | (go_at_call 81; (with_reducible refine k1.mono ?_); rintro e w1 ⟨rfl, hst1⟩
                 have k2 := hst1.swapI X (j : Int) ((j : Int) - 1) j (j - 1) rfl (by omega) (by omega) (by omega))
              | (go_at_call 82; (with_reducible refine k2.mono ?_); rintro e w2 ⟨rfl, hst2⟩))
            go_roundw
            case rel => exact ⟨j - 1, swp d'' j (j - 1), by congr 1; omega, by omega, by omega, Lib.hid (by have e := hF.out; rw [HF.out] at e; exact e), hst2⟩
            case measure => simp [intOf]; omega
        · go_wp2
          go_roundw
          case rel =>
            obtain rfl : j = a := by omega
            exact ⟨i + 1, d'', by simp, by omega, by omega, Lib.hid (by have e := hE.out; rw [insOuter, if_pos hib, ← hF.out, insInner_a] at e; exact e), hst⟩
          case measure => simp [intOf]; omega
    · go_wp2
      go_end0
      refine ⟨rfl, ?_⟩
      have e := hE.out
      rw [insOuter, if_neg hib] at e
      rw [← e]; exact hst
end
end Go.Proofs.Ytjiiploleinobaa
