/- ObjectOrder: the order of entries is one of all. Conditions: what the library's variables hold; texts of at most maxLen bytes. -/
import Derived.Test.YtcedfapcpmedfaaGreatDoorKh
import Derived.Test.YtcedfapcpmedfaaGreatDoorKg
namespace Go.Proofs.YtcedfapcpmedfaaGreatDoor
section
open Go.RowKit
set_option maxRecDepth 100000
set_option maxHeartbeats 2000000
set_option linter.unusedVariables false
theorem ordI_three (x y : List UInt8) : (x < y ∧ ordI x y = -1 ∧ ordI y x = 1) ∨ (x = y ∧ ordI x y = 0 ∧ ordI y x = 0) ∨ (y < x ∧ ordI x y = 1 ∧ ordI y x = -1) := by
  unfold ordI
  by_cases h1 : x < y
  · left
    have h2 : ¬ y < x := fun h => List.lt_irrefl _ (List.lt_trans h1 h)
    rw [if_pos h1, if_neg h2, if_pos h1]
    exact ⟨h1, rfl, rfl⟩
  · by_cases h2 : y < x
    · right; right
      rw [if_neg h1, if_pos h2, if_pos h2]
      exact ⟨h2, rfl, rfl⟩
    · right; left
      rw [if_neg h1, if_neg h2, if_neg h2, if_neg h1]
      exact ⟨List.le_antisymm (List.not_lt.1 h2) (List.not_lt.1 h1), rfl, rfl⟩
theorem ordI_neg (x y : List UInt8) : ordI y x = -(ordI x y) := by
  rcases ordI_three x y with ⟨_, h1, h2⟩ | ⟨_, h1, h2⟩ | ⟨_, h1, h2⟩ <;> rw [h1, h2] <;> rfl
theorem ordI_bd (x y : List UInt8) : -1 ≤ ordI x y ∧ ordI x y ≤ 1 := by
  rcases ordI_three x y with ⟨_, h1, _⟩ | ⟨_, h1, _⟩ | ⟨_, h1, _⟩ <;> rw [h1] <;> decide
theorem ordI_self (x : List UInt8) : ordI x x = 0 := by
  rcases ordI_three x x with ⟨h, _, _⟩ | ⟨_, h1, _⟩ | ⟨h, _, _⟩
  · exact absurd h (List.lt_irrefl _)
  · exact h1
  · exact absurd h (List.lt_irrefl _)
theorem ordI_zero (x y : List UInt8) : (ordI x y == 0) = decide (x = y) := by
  rcases ordI_three x y with ⟨h, h1, _⟩ | ⟨h, h1, _⟩ | ⟨h, h1, _⟩
  · rw [h1, decide_eq_false (fun e => List.lt_irrefl _ (e ▸ h))]; rfl
  · rw [h1, decide_eq_true h]; rfl
  · rw [h1, decide_eq_false (fun e => List.lt_irrefl _ (e ▸ h))]; rfl
theorem ordI_trans (x y z : List UInt8) (h1 : ordI x y < 0) (h2 : ordI y z < 0) : ordI x z < 0 := by
  rcases ordI_three x y with ⟨a, b, _⟩ | ⟨a, b, _⟩ | ⟨a, b, _⟩
  · rcases ordI_three y z with ⟨c, d, _⟩ | ⟨c, d, _⟩ | ⟨c, d, _⟩
    · rcases ordI_three x z with ⟨e, f, _⟩ | ⟨e, f, _⟩ | ⟨e, f, _⟩
      · omega
      · exact absurd (List.lt_trans a c) (by rw [e]; exact List.lt_irrefl _)
      · exact absurd (List.lt_trans (List.lt_trans a c) e) (List.lt_irrefl _)
    · omega
    · omega
  · omega
  · omega
theorem keyI_inj (m : Int) (x y : List UInt8) : keyI m x = keyI m y ↔ x = y := by
  unfold keyI
  split
  · constructor
    · intro h; exact List.append_cancel_right h
    · intro h; rw [h]
  · exact Iff.rfl
def moI (d : Bool) : Int := if d then 16384 else 33188
theorem built_ent0 (m : Int) (s : ByteArray) : Tryz.prog.built 40 [(0, .int .i64 m), (1, .string s)] = some (#[.int .i64 m, .string s] ++ (bvs zs20).toArray) := by kernel_rfl
def zen : Array Value := (ecell ⟨0, [], zs20⟩).toArray
theorem zenlit : (#[.int .i64 0, .string ⟨#[]⟩, .int .u8 0, .int .u8 0, .int .u8 0, .int .u8 0, .int .u8 0, .int .u8 0, .int .u8 0, .int .u8 0, .int .u8 0, .int .u8 0, .int .u8 0, .int .u8 0, .int .u8 0, .int .u8 0, .int .u8 0, .int .u8 0, .int .u8 0, .int .u8 0, .int .u8 0, .int .u8 0] : Array Value) = zen := rfl
theorem infoEn {e : En} (h : e.id.length = 20) : (Tryz.prog.info? 40).map (·.size) = some (ecell e).toArray.size := by
  rw [show (ecell e).toArray.size = 22 by simp [ecell_len h]]
  kernel_rfl
theorem zen_size {e : En} (h : e.id.length = 20) : zen.size = (ecell e).toArray.size := by
  rw [show (ecell e).toArray.size = 22 by simp [ecell_len h]]; rfl
theorem ecell_one (e : En) : (ecell e).toArray.all (·.oneCell') = true := by
  have := one_bvs e.id
  simp only [ecell, List.all_toArray, List.all_cons, Bool.and_eq_true]
  exact ⟨rfl, rfl, by simpa using this⟩
theorem wpList_buildE {ops : Array Oper} {rest : List Oper} {o : Oper} {a : Act} {w : World} {Q : Exit → Act → World → Prop} (hg : o.guard = none) (x y : Operand) (ho : o.op = .build 40 #[(0, x), (1, y)])
    (m : Int) (s : List UInt8) (hx : a.eval x = .int .i64 m) (hy : a.eval y = .string (bstr s)) (h : wpList Tryz.prog ops Q rest (a.put o.dst (ev ⟨m, s, zs20⟩)) w) : wpList Tryz.prog ops Q (o :: rest) a w := by
  refine wpList_plain hg fun K hK => ?_
  have hr := run_build (P := Tryz.prog) w 40 #[(0, .int .i64 m), (1, .string (bstr s))] _ (built_ent0 m (bstr s))
  unfold Oper.wp
  simp [execOp, ho, hx, hy, hr, Result.andThen]
  exact hK _ _ (by simpa [ev, ecell] using h)
theorem ecell_set (m n : Int) (s id : List UInt8) : (ecell ⟨m, s, id⟩).toArray.setIfInBounds 0 (.int .i64 n) = (ecell ⟨n, s, id⟩).toArray := by
  apply Array.ext'
  rw [Array.toList_setIfInBounds]
  rfl
theorem order_pass (a b c : List UInt8) (da db dc : Bool) (ha : a.length ≤ 9223372036854775807) (hb : b.length ≤ 9223372036854775807) (hc : c.length ≤ 9223372036854775807) (hl : 100 < a.length ∨ 100 < b.length ∨ 100 < c.length) (w : World) (hg : Gb w) :
    Calls Tryz.prog 4 #[.string (bstr a), .string (bstr b), .string (bstr c), .bool da, .bool db, .bool dc] w fun e w' => e = .returned (.bool true) ∧ Below w.heap.size w w' := by
  have kk := known_any w hg
  have sa := bstr_size a; have sb := bstr_size b; have sc := bstr_size c
  clear hg
  by_cases h1 : 100 < a.length
  · clear hl
    go_enter Tryz.func4, Tryz.ntmps4
    go_wp2_with (go_at_call 10; (with_reducible refine kk.mono ?_); rintro e w1 ⟨rfl, hb1⟩)
    go_ret
    exact ⟨rfl, hb1⟩
  · by_cases h2 : 100 < b.length
    · clear hl
      go_enter Tryz.func4, Tryz.ntmps4
      go_wp2_with (go_at_call 10; (with_reducible refine kk.mono ?_); rintro e w1 ⟨rfl, hb1⟩)
      go_ret
      exact ⟨rfl, hb1⟩
    · have h3 : 100 < c.length := by omega
      clear hl
      go_enter Tryz.func4, Tryz.ntmps4
      go_wp2_with (go_at_call 10; (with_reducible refine kk.mono ?_); rintro e w1 ⟨rfl, hb1⟩)
      go_ret
      exact ⟨rfl, hb1⟩
/-- three entries on memory -/
structure Thr (w : World) (g1 g2 g3 : Nat) (x y z : En) : Prop where
  e1 : w.heap[g1]? = some (.cells (ecell x).toArray 40 (0, 0))
  e2 : w.heap[g2]? = some (.cells (ecell y).toArray 40 (0, 0))
  e3 : w.heap[g3]? = some (.cells (ecell z).toArray 40 (0, 0))
  d12 : g1 < g2
  d23 : g2 < g3
theorem Thr.below {w w' : World} {g1 g2 g3 : Nat} {x y z : En} (h : Thr w g1 g2 g3 x y z) (hb : Below w.heap.size w w') : Thr w' g1 g2 g3 x y z :=
  ⟨(hb.block _ (Array.getElem?_eq_some_iff.1 h.e1).1).trans h.e1, (hb.block _ (Array.getElem?_eq_some_iff.1 h.e2).1).trans h.e2, (hb.block _ (Array.getElem?_eq_some_iff.1 h.e3).1).trans h.e3, h.d12, h.d23⟩
theorem Thr.load1 {w : World} {g1 g2 g3 : Nat} {x y z : En} (h : Thr w g1 g2 g3 x y z) (h20 : x.id.length = 20) : (loadVar 40 ⟨g1, 0, none⟩).run Tryz.prog w = .ok (ev x) w := load_ent h20 (Sl.of_block h.e1 (fun j v hj => by simpa using hj))
theorem Thr.load2 {w : World} {g1 g2 g3 : Nat} {x y z : En} (h : Thr w g1 g2 g3 x y z) (h20 : y.id.length = 20) : (loadVar 40 ⟨g2, 0, none⟩).run Tryz.prog w = .ok (ev y) w := load_ent h20 (Sl.of_block h.e2 (fun j v hj => by simpa using hj))
theorem Thr.load3 {w : World} {g1 g2 g3 : Nat} {x y z : En} (h : Thr w g1 g2 g3 x y z) (h20 : z.id.length = 20) : (loadVar 40 ⟨g3, 0, none⟩).run Tryz.prog w = .ok (ev z) w := load_ent h20 (Sl.of_block h.e3 (fun j v hj => by simpa using hj))
/-- one of the three is turned into a folder -/
theorem Thr.set1 {w w' : World} {g1 g2 g3 : Nat} {m : Int} {s : List UInt8} {y z : En} (h : Thr w g1 g2 g3 ⟨m, s, zs20⟩ y z) (n : Int) (hr : w'.heap[g1]? = some (.cells ((ecell ⟨m, s, zs20⟩).toArray.setIfInBounds 0 (.int .i64 n)) 40 (0, 0))) (hk : Kp (fun k => k = g1) w w') : Thr w' g1 g2 g3 ⟨n, s, zs20⟩ y z := by
  have := h.d12; have := h.d23
  exact ⟨by rw [hr, ecell_set], (hk.block _ (Array.getElem?_eq_some_iff.1 h.e2).1 (by omega)).trans h.e2, (hk.block _ (Array.getElem?_eq_some_iff.1 h.e3).1 (by omega)).trans h.e3, h.d12, h.d23⟩
theorem Thr.set2 {w w' : World} {g1 g2 g3 : Nat} {m : Int} {s : List UInt8} {x z : En} (h : Thr w g1 g2 g3 x ⟨m, s, zs20⟩ z) (n : Int) (hr : w'.heap[g2]? = some (.cells ((ecell ⟨m, s, zs20⟩).toArray.setIfInBounds 0 (.int .i64 n)) 40 (0, 0))) (hk : Kp (fun k => k = g2) w w') : Thr w' g1 g2 g3 x ⟨n, s, zs20⟩ z := by
  have := h.d12; have := h.d23
  exact ⟨(hk.block _ (Array.getElem?_eq_some_iff.1 h.e1).1 (by omega)).trans h.e1, by rw [hr, ecell_set], (hk.block _ (Array.getElem?_eq_some_iff.1 h.e3).1 (by omega)).trans h.e3, h.d12, h.d23⟩
theorem Thr.set3 {w w' : World} {g1 g2 g3 : Nat} {m : Int} {s : List UInt8} {x y : En} (h : Thr w g1 g2 g3 x y ⟨m, s, zs20⟩) (n : Int) (hr : w'.heap[g3]? = some (.cells ((ecell ⟨m, s, zs20⟩).toArray.setIfInBounds 0 (.int .i64 n)) 40 (0, 0))) (hk : Kp (fun k => k = g3) w w') : Thr w' g1 g2 g3 x y ⟨n, s, zs20⟩ := by
  have := h.d12; have := h.d23
  exact ⟨(hk.block _ (Array.getElem?_eq_some_iff.1 h.e1).1 (by omega)).trans h.e1, (hk.block _ (Array.getElem?_eq_some_iff.1 h.e2).1 (by omega)).trans h.e2, by rw [hr, ecell_set], h.d12, h.d23⟩
theorem esz (m : Int) (s : List UInt8) : 0 < (ecell ⟨m, s, zs20⟩).toArray.size := by simp [ecell]
theorem order_law (a b c : List UInt8) (da db dc : Bool) (ha : a.length ≤ 100) (hb : b.length ≤ 100) (hc : c.length ≤ 100) (w : World) (hg : Gb w) :
    Calls Tryz.prog 4 #[.string (bstr a), .string (bstr b), .string (bstr c), .bool da, .bool db, .bool dc] w fun e w' => e = .returned (.bool true) ∧ Below w.heap.size w w' := by
  have kk := known_any w hg
  have sa := bstr_size a; have sb := bstr_size b; have sc := bstr_size c
  have zx : ∀ m s, Hid ((Tryz.prog.info? 40).map (·.size) = some (ecell ⟨m, s, zs20⟩).toArray.size) := fun m s => Lib.hid (infoEn zs20_len)
  have zs : ∀ m s, Hid (zen.size = (ecell ⟨m, s, zs20⟩).toArray.size) := fun m s => Lib.hid (zen_size zs20_len)
  have zo : ∀ m s, Hid ((ecell ⟨m, s, zs20⟩).toArray.all (·.oneCell') = true) := fun m s => Lib.hid (ecell_one _)
  clear hg
  go_enter Tryz.func4, Tryz.ntmps4
  go_upto_region 6 with (first
    | (go_at_call 10; (with_reducible refine kk.mono ?_); rintro e w1 ⟨rfl, hb1⟩)
    | (refine wpList_buildE rfl (.const (.int .i64 33188)) (.tmp 33) rfl 33188 a rfl rfl ?_)
    | (simp only [zenlit]; refine wpList_store_row rfl 40 (.tmp 13) (.tmp 34) rfl w1.heap.size (ecell ⟨33188, a, zs20⟩).toArray rfl rfl 40 zen (heap_alloc_new _ _) (zx _ _).out (zs _ _).out (zo _ _).out ?_))
  obtain ⟨r2, b2⟩ := new_set w1 40 zen (ecell ⟨33188, a, zs20⟩).toArray
  obtain ⟨W2, hW2⟩ : ∃ W2, W2 = (w1.alloc (.cells zen 40)).setRow w1.heap.size (ecell ⟨33188, a, zs20⟩).toArray := ⟨_, rfl⟩
  rw [← hW2] at r2 b2
  try simp only [Act.put]
  rw [← hW2]
  have HB2 := Lib.hid (hb1.trans (b2.mono hb1.size)); have R2 := Lib.hid r2
  have HSZ := Lib.hid hb1.size
  clear hW2 r2 b2 hb1
  go_upto_region 7 with (first
    | (refine wpList_buildE rfl (.const (.int .i64 33188)) (.tmp 35) rfl 33188 b rfl rfl ?_)
    | (simp only [zenlit]; refine wpList_store_row rfl 40 (.tmp 14) (.tmp 36) rfl W2.heap.size (ecell ⟨33188, b, zs20⟩).toArray rfl rfl 40 zen (heap_alloc_new _ _) (zx _ _).out (zs _ _).out (zo _ _).out ?_))
  obtain ⟨r3, b3⟩ := new_set W2 40 zen (ecell ⟨33188, b, zs20⟩).toArray
  obtain ⟨W3, hW3⟩ : ∃ W3, W3 = (W2.alloc (.cells zen 40)).setRow W2.heap.size (ecell ⟨33188, b, zs20⟩).toArray := ⟨_, rfl⟩
  rw [← hW3] at r3 b3
  try simp only [Act.put]
  rw [← hW3]
  have HB3 := Lib.hid (HB2.out.trans (b3.mono HB2.out.size)); have R3 := Lib.hid r3; have R23 := Lib.hid ((b3.block _ (Array.getElem?_eq_some_iff.1 R2.out).1).trans R2.out)
  clear hW3 r3 b3
  go_upto_if 39 with (first
    | (refine wpList_buildE rfl (.const (.int .i64 33188)) (.tmp 37) rfl 33188 c rfl rfl ?_)
    | (simp only [zenlit]; refine wpList_store_row rfl 40 (.tmp 15) (.tmp 38) rfl W3.heap.size (ecell ⟨33188, c, zs20⟩).toArray rfl rfl 40 zen (heap_alloc_new _ _) (zx _ _).out (zs _ _).out (zo _ _).out ?_))
  obtain ⟨r4, b4⟩ := new_set W3 40 zen (ecell ⟨33188, c, zs20⟩).toArray
  obtain ⟨W4, hW4⟩ : ∃ W4, W4 = (W3.alloc (.cells zen 40)).setRow W3.heap.size (ecell ⟨33188, c, zs20⟩).toArray := ⟨_, rfl⟩
  rw [← hW4] at r4 b4
  try simp only [Act.put]
  rw [← hW4]
  obtain ⟨g1, hg1⟩ : ∃ g1, g1 = w1.heap.size := ⟨_, rfl⟩
  obtain ⟨g2, hg2⟩ : ∃ g2, g2 = W2.heap.size := ⟨_, rfl⟩
  obtain ⟨g3, hg3⟩ : ∃ g3, g3 = W3.heap.size := ⟨_, rfl⟩
  have q1 := (Array.getElem?_eq_some_iff.1 R2.out).1
  have q2 := (Array.getElem?_eq_some_iff.1 R3.out).1
  have T4 : Thr W4 g1 g2 g3 ⟨33188, a, zs20⟩ ⟨33188, b, zs20⟩ ⟨33188, c, zs20⟩ :=
    ⟨by rw [hg1]; exact (b4.block _ (Array.getElem?_eq_some_iff.1 R23.out).1).trans R23.out, by rw [hg2]; exact (b4.block _ q2).trans R3.out, by rw [hg3]; exact r4, by omega, by omega⟩
  have hbw := HB3.out.trans (b4.mono HB3.out.size)
  have hw1 : w.heap.size ≤ g1 := by rw [hg1]; exact HSZ.out
  rw [← hg1, ← hg2, ← hg3]
  clear R2 R3 R23 HB2 HB3 r4 b4 hW4 hg1 hg2 hg3 q1 q2
  go_cut [] (fun wx => Hid (Thr wx g1 g2 g3 ⟨moI da, a, zs20⟩ ⟨33188, b, zs20⟩ ⟨33188, c, zs20⟩) ∧ Below w.heap.size w wx)
  case first =>
    have HT := Lib.hid T4
    clear T4
    cases da with
    | false =>
      go_wp2
      go_meet
      case rel => exact ⟨HT, hbw⟩
    | true =>
      go_wp2_with (refine wpList_storeC rfl 3 (fun w => by kernel_rfl) (.tmp 40) (.const (.int .i64 16384)) rfl g1 0 (.int .i64 16384) rfl rfl 40 _ HT.out.e1 (esz _ _) rfl ?_
                   intro w5 r5 k5 z5)
      go_meet
      case rel => exact ⟨Lib.hid (HT.out.set1 16384 r5 k5), hbw.trans (k5.toBelow hbw.size (fun k hk e => by omega))⟩
  case rest =>
  clear hbw T4
  obtain ⟨HT, hbw⟩ := hcut
  go_upto_if 41 with (fail)
  go_cut [] (fun wx => Hid (Thr wx g1 g2 g3 ⟨moI da, a, zs20⟩ ⟨moI db, b, zs20⟩ ⟨33188, c, zs20⟩) ∧ Below w.heap.size w wx)
  case first =>
    cases db with
    | false =>
      go_wp2
      go_meet
      case rel => exact ⟨HT, hbw⟩
    | true =>
      go_wp2_with (refine wpList_storeC rfl 3 (fun w => by kernel_rfl) (.tmp 42) (.const (.int .i64 16384)) rfl g2 0 (.int .i64 16384) rfl rfl 40 _ HT.out.e2 (esz _ _) rfl ?_
                   intro w5 r5 k5 z5)
      go_meet
      case rel => exact ⟨Lib.hid (HT.out.set2 16384 r5 k5), hbw.trans (k5.toBelow hbw.size (fun k hk e => by have := HT.out.d12; have := HT.out.d23; omega))⟩
  case rest =>
  clear hbw HT
  obtain ⟨HT, hbw⟩ := hcut
  go_upto_if 43 with (fail)
  go_cut [] (fun wx => Hid (Thr wx g1 g2 g3 ⟨moI da, a, zs20⟩ ⟨moI db, b, zs20⟩ ⟨moI dc, c, zs20⟩) ∧ Below w.heap.size w wx)
  case first =>
    cases dc with
    | false =>
      go_wp2
      go_meet
      case rel => exact ⟨HT, hbw⟩
    | true =>
      go_wp2_with (refine wpList_storeC rfl 3 (fun w => by kernel_rfl) (.tmp 44) (.const (.int .i64 16384)) rfl g3 0 (.int .i64 16384) rfl rfl 40 _ HT.out.e3 (esz _ _) rfl ?_
                   intro w5 r5 k5 z5)
      go_meet
      case rel => exact ⟨Lib.hid (HT.out.set3 16384 r5 k5), hbw.trans (k5.toBelow hbw.size (fun k hk e => by have := HT.out.d12; have := HT.out.d23; omega))⟩
  case rest =>
  clear hbw HT
  obtain ⟨HT, hbw⟩ := hcut
  obtain ⟨kx, hkx⟩ : ∃ kx, kx = keyI (moI da) a := ⟨_, rfl⟩
  obtain ⟨ky, hky⟩ : ∃ ky, ky = keyI (moI db) b := ⟨_, rfl⟩
  obtain ⟨kz, hkz⟩ : ∃ kz, kz = keyI (moI dc) c := ⟨_, rfl⟩
  have kord : ∀ (u v : En), u.id = zs20 → v.id = zs20 → u.name.length ≤ 100 → v.name.length ≤ 100 → ∀ w', Below wc.heap.size wc w' → Calls Tryz.prog 22 #[ev u, ev v] w' fun e w'' => e = .returned (.int .i64 (ordI (keyI u.mode u.name) (keyI v.mode v.name))) ∧ Below wc.heap.size wc w'' := fun u v hu hv h1 h2 w' h =>
    quietB h (order_any u v (by rw [hu]; rfl) (by rw [hv]; rfl) (by omega) (by omega) w')
  have kxy := kord ⟨moI da, a, zs20⟩ ⟨moI db, b, zs20⟩ rfl rfl ha hb
  have kyz := kord ⟨moI db, b, zs20⟩ ⟨moI dc, c, zs20⟩ rfl rfl hb hc
  have kyx := kord ⟨moI db, b, zs20⟩ ⟨moI da, a, zs20⟩ rfl rfl hb ha
  have kxx := kord ⟨moI da, a, zs20⟩ ⟨moI da, a, zs20⟩ rfl rfl ha ha
  have kxz := kord ⟨moI da, a, zs20⟩ ⟨moI dc, c, zs20⟩ rfl rfl ha hc
  dsimp only at kxy kyz kyx kxx kxz
  rw [← hkx, ← hky] at kxy kyx
  rw [← hky, ← hkz] at kyz
  rw [← hkx] at kxx
  rw [← hkx, ← hkz] at kxz
  rw [ordI_neg kx ky] at kyx
  rw [ordI_self] at kxx
  have l1 : ∀ w', Below wc.heap.size wc w' → (loadVar 40 ⟨g1, 0, none⟩).run Tryz.prog w' = .ok (ev ⟨moI da, a, zs20⟩) w' := fun w' h => (HT.out.below h).load1 rfl
  have l2 : ∀ w', Below wc.heap.size wc w' → (loadVar 40 ⟨g2, 0, none⟩).run Tryz.prog w' = .ok (ev ⟨moI db, b, zs20⟩) w' := fun w' h => (HT.out.below h).load2 rfl
  have l3 : ∀ w', Below wc.heap.size wc w' → (loadVar 40 ⟨g3, 0, none⟩).run Tryz.prog w' = .ok (ev ⟨moI dc, c, zs20⟩) w' := fun w' h => (HT.out.below h).load3 rfl
  have htr := ordI_trans kx ky kz
  have hz0 : da = db → (ordI kx ky == 0) = decide (a = b) := fun h => by
    rw [ordI_zero, hkx, hky, h]
    exact decide_eq_decide.2 (keyI_inj _ _ _)
  have hbp := ordI_bd kx ky
  obtain ⟨X, hX⟩ : ∃ X, X = ev ⟨moI da, a, zs20⟩ := ⟨_, rfl⟩
  obtain ⟨Y, hY⟩ : ∃ Y, Y = ev ⟨moI db, b, zs20⟩ := ⟨_, rfl⟩
  obtain ⟨Z, hZ⟩ : ∃ Z, Z = ev ⟨moI dc, c, zs20⟩ := ⟨_, rfl⟩
  rw [← hX, ← hY] at kxy kyx
  rw [← hY, ← hZ] at kyz
  rw [← hX] at kxx
  rw [← hX, ← hZ] at kxz
  rw [← hX] at l1
  rw [← hY] at l2
  rw [← hZ] at l3
  obtain ⟨p, hp⟩ : ∃ p, p = ordI kx ky := ⟨_, rfl⟩
  obtain ⟨q, hq⟩ : ∃ q, q = ordI ky kz := ⟨_, rfl⟩
  obtain ⟨r, hr⟩ : ∃ r, r = ordI kx kz := ⟨_, rfl⟩
  rw [← hp] at kxy kyx hz0 hbp
  rw [← hq] at kyz
  rw [← hr] at kxz
  rw [← hp, ← hq, ← hr] at htr
  have L1 := Lib.hid l1; have L2 := Lib.hid l2; have L3 := Lib.hid l3; have KXY := Lib.hid kxy; have KYZ := Lib.hid kyz; have KYX := Lib.hid kyx; have KXX := Lib.hid kxx; have KXZ := Lib.hid kxz; have HBW := Lib.hid hbw
  have hself : Below wc.heap.size wc wc := Below.refl _ _
  obtain ⟨e0, he0⟩ : ∃ e0, e0 = decide (a = b) := ⟨_, rfl⟩
  have hab : (bstr a == bstr b) = e0 := by
    rw [he0]
    by_cases h : a = b
    · rw [decide_eq_true h]; exact bstr_eq h
    · rw [decide_eq_false h]; exact bstr_ne h
  have hab2 : (a == b) = e0 := by
    rw [he0]
    by_cases h : a = b
    · rw [decide_eq_true h]; simpa using h
    · rw [decide_eq_false h]; simpa using h
  rw [← he0] at hz0
  clear kord kxy kyz kyx kxx kxz l1 l2 l3 hkx hky hkz hX hY hZ hp hq hr HT hbw he0 sa sb sc ha hb hc zx zs zo kk hw1
  by_cases hE : da = db
  · have hz := hz0 hE
    have hEE : (da == db) = true := by simpa using hE
    clear hz0 hE
    by_cases hp : 0 ≤ p
    · clear htr
      go_wp2_with (first
        | (refine wpList_loadG 40 (.tmp 13) rfl ⟨g1, 0, none⟩ rfl X (L1.out _ (by assumption)) rfl ?_)
        | (refine wpList_loadG 40 (.tmp 14) rfl ⟨g2, 0, none⟩ rfl Y (L2.out _ (by assumption)) rfl ?_)
        | (refine wpList_loadG 40 (.tmp 15) rfl ⟨g3, 0, none⟩ rfl Z (L3.out _ (by assumption)) rfl ?_)
        | (go_at_call 22; (with_reducible refine (KXY.out _ (by assumption)).mono ?_); rintro e w6 ⟨rfl, hb6⟩)
        | (go_at_call 22; (with_reducible refine (KYZ.out _ (by assumption)).mono ?_); rintro e w7 ⟨rfl, hb7⟩)
        | (go_at_call 22; (with_reducible refine (KYX.out _ (by assumption)).mono ?_); rintro e w8 ⟨rfl, hb8⟩)
        | (go_at_call 22; (with_reducible refine (KXX.out _ (by assumption)).mono ?_); rintro e w9 ⟨rfl, hb9⟩)
        | (go_at_call 22; (with_reducible refine (KXZ.out _ (by assumption)).mono ?_); rintro e w10 ⟨rfl, hb10⟩))
      go_ret
      exact ⟨rfl, HBW.out.trans ((by assumption : Below wc.heap.size wc _).mono HBW.out.size)⟩
    · by_cases hq : 0 ≤ q
      · clear htr
        go_wp2_with (first
          | (refine wpList_loadG 40 (.tmp 13) rfl ⟨g1, 0, none⟩ rfl X (L1.out _ (by assumption)) rfl ?_)
          | (refine wpList_loadG 40 (.tmp 14) rfl ⟨g2, 0, none⟩ rfl Y (L2.out _ (by assumption)) rfl ?_)
          | (refine wpList_loadG 40 (.tmp 15) rfl ⟨g3, 0, none⟩ rfl Z (L3.out _ (by assumption)) rfl ?_)
          | (go_at_call 22; (with_reducible refine (KXY.out _ (by assumption)).mono ?_); rintro e w6 ⟨rfl, hb6⟩)
          | (go_at_call 22; (with_reducible refine (KYZ.out _ (by assumption)).mono ?_); rintro e w7 ⟨rfl, hb7⟩)
          | (go_at_call 22; (with_reducible refine (KYX.out _ (by assumption)).mono ?_); rintro e w8 ⟨rfl, hb8⟩)
          | (go_at_call 22; (with_reducible refine (KXX.out _ (by assumption)).mono ?_); rintro e w9 ⟨rfl, hb9⟩)
          | (go_at_call 22; (with_reducible refine (KXZ.out _ (by assumption)).mono ?_); rintro e w10 ⟨rfl, hb10⟩))
        go_ret
        exact ⟨rfl, HBW.out.trans ((by assumption : Below wc.heap.size wc _).mono HBW.out.size)⟩
      · have hrr := htr (by omega) (by omega)
        have hd1 : decide (0 ≤ p) = false := decide_eq_false hp
        have hd2 : decide (0 ≤ q) = false := decide_eq_false hq
        have hd3 : decide (r < 0) = true := decide_eq_true hrr
        clear htr
        go_wp2_with (first
          | (refine wpList_loadG 40 (.tmp 13) rfl ⟨g1, 0, none⟩ rfl X (L1.out _ (by assumption)) rfl ?_)
          | (refine wpList_loadG 40 (.tmp 14) rfl ⟨g2, 0, none⟩ rfl Y (L2.out _ (by assumption)) rfl ?_)
          | (refine wpList_loadG 40 (.tmp 15) rfl ⟨g3, 0, none⟩ rfl Z (L3.out _ (by assumption)) rfl ?_)
          | (go_at_call 22; (with_reducible refine (KXY.out _ (by assumption)).mono ?_); rintro e w6 ⟨rfl, hb6⟩)
          | (go_at_call 22; (with_reducible refine (KYZ.out _ (by assumption)).mono ?_); rintro e w7 ⟨rfl, hb7⟩)
          | (go_at_call 22; (with_reducible refine (KYX.out _ (by assumption)).mono ?_); rintro e w8 ⟨rfl, hb8⟩)
          | (go_at_call 22; (with_reducible refine (KXX.out _ (by assumption)).mono ?_); rintro e w9 ⟨rfl, hb9⟩)
          | (go_at_call 22; (with_reducible refine (KXZ.out _ (by assumption)).mono ?_); rintro e w10 ⟨rfl, hb10⟩))
        go_ret
        exact ⟨rfl, HBW.out.trans ((by assumption : Below wc.heap.size wc _).mono HBW.out.size)⟩
  · have hEE : (da == db) = false := by simpa using hE
    clear hz0 hE
    by_cases hp : 0 ≤ p
    · clear htr
      go_wp2_with (first
        | (refine wpList_loadG 40 (.tmp 13) rfl ⟨g1, 0, none⟩ rfl X (L1.out _ (by assumption)) rfl ?_)
        | (refine wpList_loadG 40 (.tmp 14) rfl ⟨g2, 0, none⟩ rfl Y (L2.out _ (by assumption)) rfl ?_)
        | (refine wpList_loadG 40 (.tmp 15) rfl ⟨g3, 0, none⟩ rfl Z (L3.out _ (by assumption)) rfl ?_)
        | (go_at_call 22; (with_reducible refine (KXY.out _ (by assumption)).mono ?_); rintro e w6 ⟨rfl, hb6⟩)
        | (go_at_call 22; (with_reducible refine (KYZ.out _ (by assumption)).mono ?_); rintro e w7 ⟨rfl, hb7⟩)
        | (go_at_call 22; (with_reducible refine (KYX.out _ (by assumption)).mono ?_); rintro e w8 ⟨rfl, hb8⟩)
        | (go_at_call 22; (with_reducible refine (KXX.out _ (by assumption)).mono ?_); rintro e w9 ⟨rfl, hb9⟩)
        | (go_at_call 22; (with_reducible refine (KXZ.out _ (by assumption)).mono ?_); rintro e w10 ⟨rfl, hb10⟩))
      go_ret
      exact ⟨rfl, HBW.out.trans ((by assumption : Below wc.heap.size wc _).mono HBW.out.size)⟩
    · by_cases hq : 0 ≤ q
      · clear htr
        go_wp2_with (first
          | (refine wpList_loadG 40 (.tmp 13) rfl ⟨g1, 0, none⟩ rfl X (L1.out _ (by assumption)) rfl ?_)
          | (refine wpList_loadG 40 (.tmp 14) rfl ⟨g2, 0, none⟩ rfl Y (L2.out _ (by assumption)) rfl ?_)
          | (refine wpList_loadG 40 (.tmp 15) rfl ⟨g3, 0, none⟩ rfl Z (L3.out _ (by assumption)) rfl ?_)
          | (go_at_call 22; (with_reducible refine (KXY.out _ (by assumption)).mono ?_); rintro e w6 ⟨rfl, hb6⟩)
          | (go_at_call 22; (with_reducible refine (KYZ.out _ (by assumption)).mono ?_); rintro e w7 ⟨rfl, hb7⟩)
          | (go_at_call 22; (with_reducible refine (KYX.out _ (by assumption)).mono ?_); rintro e w8 ⟨rfl, hb8⟩)
          | (go_at_call 22; (with_reducible refine (KXX.out _ (by assumption)).mono ?_); rintro e w9 ⟨rfl, hb9⟩)
          | (go_at_call 22; (with_reducible refine (KXZ.out _ (by assumption)).mono ?_); rintro e w10 ⟨rfl, hb10⟩))
        go_ret
        exact ⟨rfl, HBW.out.trans ((by assumption : Below wc.heap.size wc _).mono HBW.out.size)⟩
      · have hrr := htr (by omega) (by omega)
        have hd1 : decide (0 ≤ p) = false := decide_eq_false hp
        have hd2 : decide (0 ≤ q) = false := decide_eq_false hq
        have hd3 : decide (r < 0) = true := decide_eq_true hrr
        clear htr
        go_wp2_with (first
          | (refine wpList_loadG 40 (.tmp 13) rfl ⟨g1, 0, none⟩ rfl X (L1.out _ (by assumption)) rfl ?_)
          | (refine wpList_loadG 40 (.tmp 14) rfl ⟨g2, 0, none⟩ rfl Y (L2.out _ (by assumption)) rfl ?_)
          | (refine wpList_loadG 40 (.tmp 15) rfl ⟨g3, 0, none⟩ rfl Z (L3.out _ (by assumption)) rfl ?_)
          | (go_at_call 22; (with_reducible refine (KXY.out _ (by assumption)).mono ?_); rintro e w6 ⟨rfl, hb6⟩)
          | (go_at_call 22; (with_reducible refine (KYZ.out _ (by assumption)).mono ?_); rintro e w7 ⟨rfl, hb7⟩)
          | (go_at_call 22; (with_reducible refine (KYX.out _ (by assumption)).mono ?_); rintro e w8 ⟨rfl, hb8⟩)
          | (go_at_call 22; (with_reducible refine (KXX.out _ (by assumption)).mono ?_); rintro e w9 ⟨rfl, hb9⟩)
          | (go_at_call 22; (with_reducible refine (KXZ.out _ (by assumption)).mono ?_); rintro e w10 ⟨rfl, hb10⟩))
        go_ret
        exact ⟨rfl, HBW.out.trans ((by assumption : Below wc.heap.size wc _).mono HBW.out.size)⟩
theorem order_all (a b c : ByteArray) (da db dc : Bool) (ha : a.size ≤ 9223372036854775807) (hb : b.size ≤ 9223372036854775807) (hc : c.size ≤ 9223372036854775807) (w : World) (hg : Gb w) :
    Calls Tryz.prog 4 #[.string a, .string b, .string c, .bool da, .bool db, .bool dc] w fun e w' => e = .returned (.bool true) ∧ Below w.heap.size w w' := by
  have ea : a.data.toList.length = a.size := by simp
  have eb : b.data.toList.length = b.size := by simp
  have ec : c.data.toList.length = c.size := by simp
  by_cases h : a.size ≤ 100 ∧ b.size ≤ 100 ∧ c.size ≤ 100
  · exact order_law a.data.toList b.data.toList c.data.toList da db dc (by omega) (by omega) (by omega) w hg
  · exact order_pass a.data.toList b.data.toList c.data.toList da db dc (by omega) (by omega) (by omega) (by omega) w hg
end
end Go.Proofs.YtcedfapcpmedfaaGreatDoor
