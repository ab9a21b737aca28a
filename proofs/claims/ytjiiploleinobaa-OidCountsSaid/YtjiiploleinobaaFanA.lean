/- Counts of first bytes: 256 numbers as a row of the heap; plain sums. No condition. -/
import Derived.Test.YtjiiploleinobaaRefF
namespace Go.Proofs.Ytjiiploleinobaa
open Go.RowKit
set_option maxRecDepth 100000
set_option maxHeartbeats 4000000
set_option linter.unusedVariables false
def tab (f : Nat → Nat) : Array Value := ((List.range 256).map fun i => Value.int .i64 (f i : Int)).toArray
theorem tab_size (f : Nat → Nat) : (tab f).size = 256 := by simp [tab]
theorem tab_at (f : Nat → Nat) (i : Nat) (hi : i < 256) : (tab f)[i]? = some (.int .i64 (f i : Int)) := by
  simp [tab, hi]
theorem tab_set (f : Nat → Nat) (j v : Nat) (hj : j < 256) : (tab f).setIfInBounds j (.int .i64 (v : Int)) = tab (fun i => if i = j then v else f i) := by
  apply Array.ext
  · simp [tab_size]
  · intro i h1 h2
    have hi : i < 256 := by rw [tab_size] at h2; exact h2
    have e1 := tab_at (fun i => if i = j then v else f i) i hi
    rw [Array.getElem?_eq_getElem h2] at e1
    injection e1 with e1
    rw [e1, Array.getElem_setIfInBounds (by rw [tab_size]; exact hi)]
    by_cases e : j = i
    · subst e; simp
    · have e2 := tab_at f i hi
      rw [Array.getElem?_eq_getElem (by rw [tab_size]; exact hi)] at e2
      injection e2 with e2
      rw [if_neg e, if_neg (Ne.symm e), e2]
theorem tab_congr {f g : Nat → Nat} (h : ∀ i, i < 256 → f i = g i) : tab f = tab g := by
  unfold tab
  congr 1
  apply List.map_congr_left
  intro i hi
  rw [h i (by simpa using hi)]
theorem zero44 : Try.zeroCells44 = tab (fun _ => 0) := by kernel_rfl
/-- a name's first byte -/
def fst8 (x : List UInt8) : Nat := (x.getD 0 0).toNat
theorem fst8_lt (x : List UInt8) : fst8 x < 256 := (x.getD 0 0).toNat_lt
/-- how many begin with b -/
def cnt (l : List (List UInt8)) (b : Nat) : Nat := l.countP (fun x => decide (fst8 x = b))
/-- how many begin with at most b -/
def fan (l : List (List UInt8)) (b : Nat) : Nat := l.countP (fun x => decide (fst8 x ≤ b))
theorem cnt_le (l : List (List UInt8)) (b : Nat) : cnt l b ≤ l.length := List.countP_le_length
theorem fan_le (l : List (List UInt8)) (b : Nat) : fan l b ≤ l.length := List.countP_le_length
theorem fan_zero (l : List (List UInt8)) : fan l 0 = cnt l 0 := by
  unfold fan cnt
  congr 1
  funext x
  exact decide_eq_decide.2 (by omega)
theorem fan_succ (l : List (List UInt8)) (b : Nat) : fan l (b + 1) = cnt l (b + 1) + fan l b := by
  induction l with
  | nil => rfl
  | cons x l ih =>
    unfold fan cnt at *
    simp only [List.countP_cons, ih]
    by_cases h1 : fst8 x = b + 1
    · have h3 : ¬ b + 1 ≤ b := by omega
      simp [h1, h3]; omega
    · by_cases h2 : fst8 x ≤ b
      · have : fst8 x ≤ b + 1 := by omega
        simp [h1, h2, this]; omega
      · have : ¬ fst8 x ≤ b + 1 := by omega
        simp [h1, h2, this]
theorem cnt_snoc (l : List (List UInt8)) (i : Nat) (hi : i < l.length) (b : Nat) : cnt (l.take (i + 1)) b = if b = fst8 (l.getD i []) then cnt (l.take i) b + 1 else cnt (l.take i) b := by
  have e : l.getD i [] = l[i] := by rw [List.getD_eq_getElem?_getD, List.getElem?_eq_getElem hi]; rfl
  rw [List.take_succ_eq_append_getElem hi, e]
  unfold cnt
  rw [List.countP_append, List.countP_singleton]
  by_cases h : fst8 l[i] = b
  · simp [h]
  · simp [h, Ne.symm h]
theorem fan_snoc (l : List (List UInt8)) (i : Nat) (hi : i < l.length) (b : Nat) : fan (l.take (i + 1)) b = if fst8 (l.getD i []) ≤ b then fan (l.take i) b + 1 else fan (l.take i) b := by
  have e : l.getD i [] = l[i] := by rw [List.getD_eq_getElem?_getD, List.getElem?_eq_getElem hi]; rfl
  rw [List.take_succ_eq_append_getElem hi, e]
  unfold fan
  rw [List.countP_append, List.countP_singleton]
  by_cases h : fst8 l[i] ≤ b
  · simp [h]
  · simp [h]
end Go.Proofs.Ytjiiploleinobaa
