/- choosePivot over a value with Less. Conditions: the row's length is at most 2^40, the places lie in it, eight or more lie between. -/
import Derived.Test.YtjiiploleinobaaSrtD
namespace Go.Proofs.Ytjiiploleinobaa
open Go.RowKit
open Go.Sort (swp order2 median medianAdjacent choosePivot Hint)
set_option maxRecDepth 100000
set_option maxHeartbeats 4000000
set_option linter.unusedVariables false
section
variable {α : Type} [Inhabited α] {S : Value} {lt : α → α → Bool} {n g : Nat} {H : World → Array α → Prop}
def hintI : Hint → Int
  | .unknown => 0
  | .increasing => 1
  | .decreasing => 2
theorem adjacent_rng {lt : α → α → Bool} {d : Array α} {a s x s' : Nat} (h : medianAdjacent lt d a s = (x, s')) : (x = a - 1 ∨ x = a ∨ x = a + 1) ∧ s ≤ s' ∧ s' ≤ s + 3 := median_rng h
/-- the end of choosePivot -/
theorem hint_of (s : Nat) : hintI (if s = 0 then .increasing else if s = 12 then .decreasing else .unknown) = if s = 0 then 1 else if s = 12 then 2 else 0 := by
  split
  · rfl
  · split <;> rfl
theorem pivot_small (X : Srt S lt n g H) (hn : n ≤ 1099511627776) (d : Array α) (a b : Nat) (hab : a + 8 ≤ b) (hl : b < a + 50) (hb : b ≤ n) (w : World) (h : H w d) (hd : d.size = n) (p : Nat) (hh : Hint) (ho : choosePivot lt d a b = (p, hh)) :
    Calls Try.prog 52 #[.iface 64 S, .int .i64 (a : Int), .int .i64 (b : Int)] w fun e w' => e = .returned (.tuple #[.int .i64 (p : Int), .int .i64 (hintI hh)]) ∧ St H g n w w' d := by
  obtain ⟨l, hl1⟩ : ∃ l, l = b - a := ⟨_, rfl⟩
  obtain ⟨m, hm⟩ : ∃ m, m = l / 4 := ⟨_, rfl⟩
  obtain ⟨x, s, hms⟩ : ∃ x s, median lt d (a + m * 1) (a + m * 2) (a + m * 3) 0 = (x, s) := ⟨_, _, rfl⟩
  have e0 : (p, hh) = (x, if s = 0 then .increasing else if s = 12 then .decreasing else .unknown) := by
    rw [← ho]
    unfold choosePivot
    simp only
    rw [if_pos (by omega), if_neg (by omega), ← hl1, ← hm, hms]
  injection e0 with e0 e1
  subst e0
  have eh : hintI hh = if s = 0 then 1 else if s = 12 then 2 else 0 := by rw [e1, hint_of]
  obtain ⟨z, hz⟩ : ∃ z, z = hintI hh := ⟨_, rfl⟩
  rw [← hz]
  have HZ := Lib.hid (hz.trans eh)
  clear hz
  have pv0 : Pv H g n w.heap.size w (w.alloc (.cells #[.int .i64 0] 3)) d 0 := ⟨X.keep h (((Below.refl _ _).alloc (Nat.le_refl _) _).block g (X.dom h)), hd, heap_alloc_new _ _, X.dom h, Nat.le_refl _, (Below.refl _ _).alloc (Nat.le_refl _) _⟩
  have k1 := median_any X hn pv0 (by omega) ((a : Int) + (m : Int)) ((a : Int) + (m : Int) * 2) ((a : Int) + (m : Int) * 3) (a + m * 1) (a + m * 2) (a + m * 3) (by omega) (by omega) (by omega) (by omega) (by omega) (by omega) p s hms
  have q1 : (b : Int) - a = l := by omega
  have q2 : (l : Int) / 4 = m := by omega
  have q3 : 8 ≤ l := by omega
  have q4 : l < 50 := by omega
  have q5 : a + m * 3 < n := by omega
  clear pv0 hms eh e1 ho hl1 hm h hd
  go_enter Try.func52, Try.ntmps52
  go_upto_region 12 with (go_at_call 61; (with_reducible refine k1.mono ?_); rintro e w1 ⟨rfl, hp⟩)
  have c1 : w1.cell? ⟨w.heap.size, 0, none⟩ = some (.int .i64 (s : Int)) := by rw [cell_of_row _ _ _ _ _ _ hp.cell]; rfl
  have fin : St H g n w w1 d := ⟨hp.holds, hp.size, Kp.ofBelow hp.kp⟩
  clear hp k1
  by_cases s0 : s = 0
  · subst s0
    have z0 := HZ.out
    rw [if_pos rfl] at z0
    have ZZ := Lib.hid z0
    clear HZ z0
    go_wp2
    go_ret2
    exact ⟨by rw [ZZ.out]; rfl, fin⟩
  · have n0 : ¬ (s : Int) = 0 := by omega
    have m0 : ((s : Int) == 0) = false := beq_eq_false_iff_ne.2 n0
    by_cases s12 : s = 12
    · subst s12
      have z0 := HZ.out
      rw [if_neg s0, if_pos rfl] at z0
      have ZZ := Lib.hid z0
      clear HZ s0 n0 m0 z0
      go_wp2
      go_ret2
      exact ⟨by rw [ZZ.out]; rfl, fin⟩
    · have n12 : ¬ (s : Int) = 12 := by omega
      have m12 : ((s : Int) == 12) = false := beq_eq_false_iff_ne.2 n12
      have z0 := HZ.out
      rw [if_neg s0, if_neg s12] at z0
      have ZZ := Lib.hid z0
      clear HZ s0 s12 z0
      go_wp2
      go_ret2
      exact ⟨by rw [ZZ.out]; rfl, fin⟩
theorem pivot_big (X : Srt S lt n g H) (hn : n ≤ 1099511627776) (d : Array α) (a b : Nat) (hab : a + 50 ≤ b) (hb : b ≤ n) (w : World) (h : H w d) (hd : d.size = n) (p : Nat) (hh : Hint) (ho : choosePivot lt d a b = (p, hh)) :
    Calls Try.prog 52 #[.iface 64 S, .int .i64 (a : Int), .int .i64 (b : Int)] w fun e w' => e = .returned (.tuple #[.int .i64 (p : Int), .int .i64 (hintI hh)]) ∧ St H g n w w' d := by
  obtain ⟨l, hl1⟩ : ∃ l, l = b - a := ⟨_, rfl⟩
  obtain ⟨m, hm⟩ : ∃ m, m = l / 4 := ⟨_, rfl⟩
  obtain ⟨xi, si, hi⟩ : ∃ x s, medianAdjacent lt d (a + m * 1) 0 = (x, s) := ⟨_, _, rfl⟩
  obtain ⟨xj, sj, hj⟩ : ∃ x s, medianAdjacent lt d (a + m * 2) si = (x, s) := ⟨_, _, rfl⟩
  obtain ⟨xk, sk, hk⟩ : ∃ x s, medianAdjacent lt d (a + m * 3) sj = (x, s) := ⟨_, _, rfl⟩
  obtain ⟨x, s, hms⟩ : ∃ x s, median lt d xi xj xk sk = (x, s) := ⟨_, _, rfl⟩
  have e0 : (p, hh) = (x, if s = 0 then .increasing else if s = 12 then .decreasing else .unknown) := by
    rw [← ho]
    unfold choosePivot
    simp only
    rw [if_pos (by omega), if_pos (by omega), ← hl1, ← hm, hi, hj, hk, hms]
  injection e0 with e0 e1
  subst e0
  have eh : hintI hh = if s = 0 then 1 else if s = 12 then 2 else 0 := by rw [e1, hint_of]
  obtain ⟨z, hz⟩ : ∃ z, z = hintI hh := ⟨_, rfl⟩
  rw [← hz]
  have HZ := Lib.hid (hz.trans eh)
  clear hz
  have r1 := adjacent_rng hi; have r2 := adjacent_rng hj; have r3 := adjacent_rng hk
  have pv0 : Pv H g n w.heap.size w (w.alloc (.cells #[.int .i64 0] 3)) d 0 := ⟨X.keep h (((Below.refl _ _).alloc (Nat.le_refl _) _).block g (X.dom h)), hd, heap_alloc_new _ _, X.dom h, Nat.le_refl _, (Below.refl _ _).alloc (Nat.le_refl _) _⟩
  have k1 := adjacent_any X hn pv0 (by omega) ((a : Int) + (m : Int)) (a + m * 1) (by omega) (by omega) (by omega) xi si hi
  have k2 := fun W (hp : Pv H g n w.heap.size w W d si) => adjacent_any X hn hp (by omega) ((a : Int) + (m : Int) * 2) (a + m * 2) (by omega) (by omega) (by omega) xj sj hj
  have k3 := fun W (hp : Pv H g n w.heap.size w W d sj) => adjacent_any X hn hp (by omega) ((a : Int) + (m : Int) * 3) (a + m * 3) (by omega) (by omega) (by omega) xk sk hk
  have k4 := fun W (hp : Pv H g n w.heap.size w W d sk) => median_any X hn hp (by omega) (xi : Int) (xj : Int) (xk : Int) xi xj xk rfl rfl rfl (by omega) (by omega) (by omega) p s hms
  have q1 : (b : Int) - a = l := by omega
  have q2 : (l : Int) / 4 = m := by omega
  have q3 : 8 ≤ l := by omega
  have q4 : 50 ≤ l := by omega
  have q5 : a + m * 3 < n := by omega
  clear pv0 hms eh e1 ho hl1 hm h hd hi hj hk r1 r2 r3
  go_enter Try.func52, Try.ntmps52
  go_upto_region 12 with (first
    | (go_at_call 60; (with_reducible refine k1.mono ?_); rintro e w1 ⟨rfl, hp1⟩)
    | (go_at_call 60; (with_reducible refine (k2 _ hp1).mono ?_); rintro e w2 ⟨rfl, hp2⟩)
    | (go_at_call 60; (with_reducible refine (k3 _ hp2).mono ?_); rintro e w3 ⟨rfl, hp3⟩)
    | (go_at_call 61; (with_reducible refine (k4 _ hp3).mono ?_); rintro e w4 ⟨rfl, hp⟩))
  have c1 : w4.cell? ⟨w.heap.size, 0, none⟩ = some (.int .i64 (s : Int)) := by rw [cell_of_row _ _ _ _ _ _ hp.cell]; rfl
  have fin : St H g n w w4 d := ⟨hp.holds, hp.size, Kp.ofBelow hp.kp⟩
  clear hp hp1 hp2 hp3 k1 k2 k3 k4
  by_cases s0 : s = 0
  · subst s0
    have z0 := HZ.out
    rw [if_pos rfl] at z0
    have ZZ := Lib.hid z0
    clear HZ z0
    go_wp2
    go_ret2
    exact ⟨by rw [ZZ.out]; rfl, fin⟩
  · have n0 : ¬ (s : Int) = 0 := by omega
    have m0 : ((s : Int) == 0) = false := beq_eq_false_iff_ne.2 n0
    by_cases s12 : s = 12
    · subst s12
      have z0 := HZ.out
      rw [if_neg s0, if_pos rfl] at z0
      have ZZ := Lib.hid z0
      clear HZ s0 n0 m0 z0
      go_wp2
      go_ret2
      exact ⟨by rw [ZZ.out]; rfl, fin⟩
    · have n12 : ¬ (s : Int) = 12 := by omega
      have m12 : ((s : Int) == 12) = false := beq_eq_false_iff_ne.2 n12
      have z0 := HZ.out
      rw [if_neg s0, if_neg s12] at z0
      have ZZ := Lib.hid z0
      clear HZ s0 s12 z0
      go_wp2
      go_ret2
      exact ⟨by rw [ZZ.out]; rfl, fin⟩
theorem pivot_any (X : Srt S lt n g H) (hn : n ≤ 1099511627776) (d : Array α) (a b : Nat) (hab : a + 8 ≤ b) (hb : b ≤ n) (w : World) (h : H w d) (hd : d.size = n) (p : Nat) (hh : Hint) (ho : choosePivot lt d a b = (p, hh)) :
    Calls Try.prog 52 #[.iface 64 S, .int .i64 (a : Int), .int .i64 (b : Int)] w fun e w' => e = .returned (.tuple #[.int .i64 (p : Int), .int .i64 (hintI hh)]) ∧ St H g n w w' d := by
  by_cases hl : b < a + 50
  · exact pivot_small X hn d a b hab hl hb w h hd p hh ho
  · exact pivot_big X hn d a b (by omega) hb w h hd p hh ho
end
end Go.Proofs.Ytjiiploleinobaa
