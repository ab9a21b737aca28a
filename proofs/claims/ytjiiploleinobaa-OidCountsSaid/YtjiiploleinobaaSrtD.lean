/- order2, median, medianAdjacent, choosePivot over a value with Less. Conditions: the row's length is at most 2^40, the places lie in it. -/
import Derived.Test.YtjiiploleinobaaSrtA
namespace Go.Proofs.Ytjiiploleinobaa
open Go.RowKit
open Go.Sort (swp order2 median medianAdjacent choosePivot)
set_option maxRecDepth 100000
set_option maxHeartbeats 4000000
set_option linter.unusedVariables false
section
variable {α : Type} [Inhabited α] {S : Value} {lt : α → α → Bool} {n g : Nat} {H : World → Array α → Prop}
/-- the row holds d, the count of swaps stands in a block of the call's own -/
structure Pv (H : World → Array α → Prop) (g n sb : Nat) (w W : World) (d : Array α) (s : Nat) : Prop where
  holds : H W d
  size : d.size = n
  cell : W.heap[sb]? = some (.cells #[.int .i64 (s : Int)] 3 (0, 0))
  old : g < w.heap.size
  new : w.heap.size ≤ sb
  kp : Below w.heap.size w W
theorem Pv.below (X : Srt S lt n g H) {sb s : Nat} {w W W' : World} {d : Array α} (h : Pv H g n sb w W d s) (hb : Below W.heap.size W W') : Pv H g n sb w W' d s :=
  ⟨X.keep h.holds (hb.block g (X.dom h.holds)), h.size, (hb.block sb (Array.getElem?_eq_some_iff.1 h.cell).1).trans h.cell, h.old, h.new, h.kp.trans (hb.mono h.kp.size)⟩
theorem Pv.lessI (X : Srt S lt n g H) {sb s : Nat} {w W : World} {d : Array α} (h : Pv H g n sb w W d s) (x y : Int) (i j : Nat) (hx : x = i) (hy : y = j) (hi : i < n) (hj : j < n) (q : Bool) (hq : lt d[i]! d[j]! = q) :
    Calls Try.prog 81 #[S, .int .i64 x, .int .i64 y] W fun e w' => e = .returned (.bool q) ∧ Pv H g n sb w w' d s := by
  subst hx hy
  exact (X.less W d i j h.holds h.size hi hj).mono fun _ _ ⟨he, hb⟩ => ⟨by rw [he, hq], h.below X hb⟩
theorem Pv.up (X : Srt S lt n g H) {sb s : Nat} {w W : World} {d : Array α} (h : Pv H g n sb w W d s) (z : Int) (hz : z = ((s + 1 : Nat) : Int)) : Pv H g n sb w (W.setCell ⟨sb, 0, none⟩ (.int .i64 z)) d (s + 1) := by
  subst hz
  refine ⟨X.keep h.holds (Below.heap_setCell _ _ _ _ (fun e => ?_)), h.size, ?_, h.old, h.new, h.kp.setCell (p := ⟨sb, 0, none⟩) h.new _⟩
  · have := h.old; have := h.new; simp only at e; omega
  · have := heap_setCell_same W sb 0 _ 3 (.int .i64 ((s + 1 : Nat) : Int)) h.cell
    simpa using this
theorem order2_rng {lt : α → α → Bool} {d : Array α} {a b s x y s' : Nat} (h : order2 lt d a b s = (x, y, s')) : ((x = a ∧ y = b) ∨ (x = b ∧ y = a)) ∧ s ≤ s' ∧ s' ≤ s + 1 := by
  unfold order2 at h
  split at h <;> (injection h with h1 h2; injection h2 with h2 h3; subst h1 h2 h3)
  · exact ⟨.inr ⟨rfl, rfl⟩, by omega, by omega⟩
  · exact ⟨.inl ⟨rfl, rfl⟩, by omega, by omega⟩
theorem order2_any (X : Srt S lt n g H) (hn : n ≤ 1099511627776) {sb s : Nat} {w W : World} {d : Array α} (h : Pv H g n sb w W d s) (hs : s ≤ 1000) (za zb : Int) (a b : Nat) (hza : za = a) (hzb : zb = b) (ha : a < n) (hb : b < n) (x y s' : Nat) (ho : order2 lt d a b s = (x, y, s')) :
    Calls Try.prog 62 #[.iface 64 S, .int .i64 za, .int .i64 zb, .pointer (some ⟨sb, 0, none⟩)] W fun e w' => e = .returned (.tuple #[.int .i64 (x : Int), .int .i64 (y : Int)]) ∧ Pv H g n sb w w' d s' := by
  subst hza hzb
  have mS : ∀ (w : World), (method 213 64 S "Less").run Try.prog w = .ok (81, S) w := fun w => by kernel_rfl
  have cS := less_calls S
  obtain ⟨q, hq⟩ : ∃ q, lt d[b]! d[a]! = q := ⟨_, rfl⟩
  have k1 := h.lessI X (b : Int) (a : Int) b a rfl rfl hb ha q hq
  unfold order2 at ho
  rw [hq] at ho
  clear h hq
  go_enter Try.func62, Try.ntmps62
  cases q with
  | true =>
    simp at ho
    obtain ⟨rfl, rfl, rfl⟩ := ho
    go_wp2_with (go_at_call 81; (with_reducible refine k1.mono ?_); rintro e w1 ⟨rfl, hp⟩
                 have c1 : w1.cell? ⟨sb, 0, none⟩ = some (.int .i64 (s : Int)) := by rw [cell_of_row _ _ _ _ _ _ hp.cell]; rfl
                 have f1 : w1.frozen? ⟨sb, 0, none⟩ = false := frozen_of_row _ _ _ _ _ hp.cell)
    go_ret2
    exact ⟨rfl, hp.up X _ (by simp)⟩
  | false =>
    simp at ho
    obtain ⟨rfl, rfl, rfl⟩ := ho
    go_wp2_with (go_at_call 81; (with_reducible refine k1.mono ?_); rintro e w1 ⟨rfl, hp⟩)
    go_ret2
    exact ⟨rfl, hp⟩
theorem median_rng {lt : α → α → Bool} {d : Array α} {a b c s x s' : Nat} (h : median lt d a b c s = (x, s')) : (x = a ∨ x = b ∨ x = c) ∧ s ≤ s' ∧ s' ≤ s + 3 := by
  unfold median at h
  simp only at h
  obtain ⟨x1, y1, s1, e1⟩ : ∃ x y t, order2 lt d a b s = (x, y, t) := ⟨_, _, _, rfl⟩
  rw [e1] at h
  obtain ⟨x2, y2, s2, e2⟩ : ∃ x y t, order2 lt d y1 c s1 = (x, y, t) := ⟨_, _, _, rfl⟩
  rw [e2] at h
  obtain ⟨x3, y3, s3, e3⟩ : ∃ x y t, order2 lt d x1 x2 s2 = (x, y, t) := ⟨_, _, _, rfl⟩
  rw [e3] at h
  have r1 := order2_rng e1; have r2 := order2_rng e2; have r3 := order2_rng e3
  injection h with h1 h2
  simp only at h1 h2
  omega
theorem median_any (X : Srt S lt n g H) (hn : n ≤ 1099511627776) {sb s : Nat} {w W : World} {d : Array α} (h : Pv H g n sb w W d s) (hs : s ≤ 900) (za zb zc : Int) (a b c : Nat) (hza : za = a) (hzb : zb = b) (hzc : zc = c) (ha : a < n) (hb : b < n) (hc : c < n) (x s' : Nat) (ho : median lt d a b c s = (x, s')) :
    Calls Try.prog 61 #[.iface 64 S, .int .i64 za, .int .i64 zb, .int .i64 zc, .pointer (some ⟨sb, 0, none⟩)] W fun e w' => e = .returned (.int .i64 (x : Int)) ∧ Pv H g n sb w w' d s' := by
  subst hza hzb hzc
  unfold median at ho
  simp only at ho
  obtain ⟨x1, y1, s1, e1⟩ : ∃ x y t, order2 lt d a b s = (x, y, t) := ⟨_, _, _, rfl⟩
  rw [e1] at ho
  obtain ⟨x2, y2, s2, e2⟩ : ∃ x y t, order2 lt d y1 c s1 = (x, y, t) := ⟨_, _, _, rfl⟩
  rw [e2] at ho
  obtain ⟨x3, y3, s3, e3⟩ : ∃ x y t, order2 lt d x1 x2 s2 = (x, y, t) := ⟨_, _, _, rfl⟩
  rw [e3] at ho
  have r1 := order2_rng e1; have r2 := order2_rng e2; have r3 := order2_rng e3
  injection ho with h1 h2
  simp only at h1 h2
  subst h1 h2
  have k1 := order2_any X hn h (by omega) (a : Int) (b : Int) a b rfl rfl ha hb x1 y1 s1 e1
  have k2 := fun W (h : Pv H g n sb w W d s1) => order2_any X hn h (by omega) (y1 : Int) (c : Int) y1 c rfl rfl (by omega) hc x2 y2 s2 e2
  have k3 := fun W (h : Pv H g n sb w W d s2) => order2_any X hn h (by omega) (x1 : Int) (x2 : Int) x1 x2 rfl rfl (by omega) (by omega) x3 y3 s3 e3
  clear e1 e2 e3 r1 r2 r3 h
  go_enter Try.func61, Try.ntmps61
  go_wp2_with (first
    | (go_at_call 62; (with_reducible refine k1.mono ?_); rintro e w1 ⟨rfl, hp1⟩)
    | (go_at_call 62; (with_reducible refine (k2 _ hp1).mono ?_); rintro e w2 ⟨rfl, hp2⟩)
    | (go_at_call 62; (with_reducible refine (k3 _ hp2).mono ?_); rintro e w3 ⟨rfl, hp3⟩))
  go_ret
  exact ⟨rfl, hp3⟩
theorem adjacent_any (X : Srt S lt n g H) (hn : n ≤ 1099511627776) {sb s : Nat} {w W : World} {d : Array α} (h : Pv H g n sb w W d s) (hs : s ≤ 900) (za : Int) (a : Nat) (hza : za = a) (h1 : 1 ≤ a) (ha : a + 1 < n) (x s' : Nat) (ho : medianAdjacent lt d a s = (x, s')) :
    Calls Try.prog 60 #[.iface 64 S, .int .i64 za, .pointer (some ⟨sb, 0, none⟩)] W fun e w' => e = .returned (.int .i64 (x : Int)) ∧ Pv H g n sb w w' d s' := by
  subst hza
  unfold medianAdjacent at ho
  have k1 := median_any X hn h hs ((a : Int) - 1) (a : Int) ((a : Int) + 1) (a - 1) a (a + 1) (by omega) rfl (by omega) (by omega) (by omega) ha x s' ho
  clear ho h
  go_enter Try.func60, Try.ntmps60
  go_wp2_with (go_at_call 61; (with_reducible refine k1.mono ?_); rintro e w1 ⟨rfl, hp1⟩)
  go_ret
  exact ⟨rfl, hp1⟩
end
end Go.Proofs.Ytjiiploleinobaa
