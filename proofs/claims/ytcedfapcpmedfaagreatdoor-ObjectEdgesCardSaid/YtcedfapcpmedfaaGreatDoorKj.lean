/- ObjectOrder: the order of entries is one of all. Conditions: what the library's variables hold; texts of at most maxLen bytes.
   Trees as functions on lists: modes, names, an entry off the front, order; what is written is read. Plain laws. No condition.
   Maps of the call's own: what they hold as a list of pairs; look-up, store. The keys' law is the kit's. No condition.
   The digits of a mode: strconv.FormatInt at base eight, object.mode. Condition: what the library's table holds.
   Names of entries (the program's named, the reference's name): namedI; the reference's mode, key, Order. Conditions: shorter than 2^30, twenty bytes each.
   object.modeOf: modeI. Condition: what the library's table holds.
   Rows of entries on memory. Conditions: twenty bytes each.
   object.ordered: ordE. Conditions: twenty bytes each, names of at most 2^20 bytes, fewer than 100000 entries.
   object.EncodeTree: encTr. Conditions: what the library's table holds; twenty bytes each, names of at most 2^20 bytes, fewer than 100000 entries.
   Entries are built, laid into rows, appended (the program's, the reference's). Conditions: twenty bytes each, at most 100000 entries. -/
import Derived.Test.YtcedfapcpmedfaaGreatDoorKh
import Derived.Test.YtcedfapcpmedfaaGreatDoorKg
import Derived.Test.YtcedfapcpmedfaaGreatDoorKf
import Derived.Test.YtcedfapcpmedfaaGreatDoorKa
import Derived.StringKeys
import Derived.ChangeMaps4
import Derived.LoopN
import Derived.Test.YtcedfapcpmedfaaGreatDoorKi
import Derived.Test.YtcedfapcpmedfaaGreatDoorKb
import Derived.Laws.Tables
import Derived.Great.BuildSlice
import Derived.Laws.Cover3
namespace Go.Proofs.YtcedfapcpmedfaaGreatDoor
section
open Go.RowKit
set_option maxRecDepth 100000
set_option maxHeartbeats 2000000
set_option linter.unusedVariables false
theorem ordI_three (x y : List UInt8) : (x < y ∧ ordI x y = -1 ∧ ordI y x = 1) ∨ (x = y ∧ ordI x y = 0 ∧ ordI y x = 0) ∨ (y < x ∧ ordI x y = 1 ∧ ordI y x = -1) := by
  unfold ordI
  by_cases h1 : x < y
  · left
    have h2 : ¬ y < x := fun h => List.lt_irrefl _ (List.lt_trans h1 h)
    rw [if_pos h1, if_neg h2, if_pos h1]
    exact ⟨h1, rfl, rfl⟩
  · by_cases h2 : y < x
    · right; right
      rw [if_neg h1, if_pos h2, if_pos h2]
      exact ⟨h2, rfl, rfl⟩
    · right; left
      rw [if_neg h1, if_neg h2, if_neg h2, if_neg h1]
      exact ⟨List.le_antisymm (List.not_lt.1 h2) (List.not_lt.1 h1), rfl, rfl⟩
theorem ordI_neg (x y : List UInt8) : ordI y x = -(ordI x y) := by
  rcases ordI_three x y with ⟨_, h1, h2⟩ | ⟨_, h1, h2⟩ | ⟨_, h1, h2⟩ <;> rw [h1, h2] <;> rfl
theorem ordI_bd (x y : List UInt8) : -1 ≤ ordI x y ∧ ordI x y ≤ 1 := by
  rcases ordI_three x y with ⟨_, h1, _⟩ | ⟨_, h1, _⟩ | ⟨_, h1, _⟩ <;> rw [h1] <;> decide
theorem ordI_self (x : List UInt8) : ordI x x = 0 := by
  rcases ordI_three x x with ⟨h, _, _⟩ | ⟨_, h1, _⟩ | ⟨h, _, _⟩
  · exact absurd h (List.lt_irrefl _)
  · exact h1
  · exact absurd h (List.lt_irrefl _)
theorem ordI_zero (x y : List UInt8) : (ordI x y == 0) = decide (x = y) := by
  rcases ordI_three x y with ⟨h, h1, _⟩ | ⟨h, h1, _⟩ | ⟨h, h1, _⟩
  · rw [h1, decide_eq_false (fun e => List.lt_irrefl _ (e ▸ h))]; rfl
  · rw [h1, decide_eq_true h]; rfl
  · rw [h1, decide_eq_false (fun e => List.lt_irrefl _ (e ▸ h))]; rfl
theorem ordI_trans (x y z : List UInt8) (h1 : ordI x y < 0) (h2 : ordI y z < 0) : ordI x z < 0 := by
  rcases ordI_three x y with ⟨a, b, _⟩ | ⟨a, b, _⟩ | ⟨a, b, _⟩
  · rcases ordI_three y z with ⟨c, d, _⟩ | ⟨c, d, _⟩ | ⟨c, d, _⟩
    · rcases ordI_three x z with ⟨e, f, _⟩ | ⟨e, f, _⟩ | ⟨e, f, _⟩
      · omega
      · exact absurd (List.lt_trans a c) (by rw [e]; exact List.lt_irrefl _)
      · exact absurd (List.lt_trans (List.lt_trans a c) e) (List.lt_irrefl _)
    · omega
    · omega
  · omega
  · omega
theorem keyI_inj (m : Int) (x y : List UInt8) : keyI m x = keyI m y ↔ x = y := by
  unfold keyI
  split
  · constructor
    · intro h; exact List.append_cancel_right h
    · intro h; rw [h]
  · exact Iff.rfl
def moI (d : Bool) : Int := if d then 16384 else 33188
theorem built_ent0 (m : Int) (s : ByteArray) : Tryz.prog.built 40 [(0, .int .i64 m), (1, .string s)] = some (#[.int .i64 m, .string s] ++ (bvs zs20).toArray) := by kernel_rfl
def zen : Array Value := (ecell ⟨0, [], zs20⟩).toArray
theorem zenlit : (#[.int .i64 0, .string ⟨#[]⟩, .int .u8 0, .int .u8 0, .int .u8 0, .int .u8 0, .int .u8 0, .int .u8 0, .int .u8 0, .int .u8 0, .int .u8 0, .int .u8 0, .int .u8 0, .int .u8 0, .int .u8 0, .int .u8 0, .int .u8 0, .int .u8 0, .int .u8 0, .int .u8 0, .int .u8 0, .int .u8 0] : Array Value) = zen := rfl
theorem infoEn {e : En} (h : e.id.length = 20) : (Tryz.prog.info? 40).map (·.size) = some (ecell e).toArray.size := by
  rw [show (ecell e).toArray.size = 22 by simp [ecell_len h]]
  kernel_rfl
theorem zen_size {e : En} (h : e.id.length = 20) : zen.size = (ecell e).toArray.size := by
  rw [show (ecell e).toArray.size = 22 by simp [ecell_len h]]; rfl
theorem ecell_one (e : En) : (ecell e).toArray.all (·.oneCell') = true := by
  have := one_bvs e.id
  simp only [ecell, List.all_toArray, List.all_cons, Bool.and_eq_true]
  exact ⟨rfl, rfl, by simpa using this⟩
theorem wpList_buildE {ops : Array Oper} {rest : List Oper} {o : Oper} {a : Act} {w : World} {Q : Exit → Act → World → Prop} (hg : o.guard = none) (x y : Operand) (ho : o.op = .build 40 #[(0, x), (1, y)])
    (m : Int) (s : List UInt8) (hx : a.eval x = .int .i64 m) (hy : a.eval y = .string (bstr s)) (h : wpList Tryz.prog ops Q rest (a.put o.dst (ev ⟨m, s, zs20⟩)) w) : wpList Tryz.prog ops Q (o :: rest) a w := by
  refine wpList_plain hg fun K hK => ?_
  have hr := run_build (P := Tryz.prog) w 40 #[(0, .int .i64 m), (1, .string (bstr s))] _ (built_ent0 m (bstr s))
  unfold Oper.wp
  simp [execOp, ho, hx, hy, hr, Result.andThen]
  exact hK _ _ (by simpa [ev, ecell] using h)
theorem ecell_set (m n : Int) (s id : List UInt8) : (ecell ⟨m, s, id⟩).toArray.setIfInBounds 0 (.int .i64 n) = (ecell ⟨n, s, id⟩).toArray := by
  apply Array.ext'
  rw [Array.toList_setIfInBounds]
  rfl
theorem order_pass (a b c : List UInt8) (da db dc : Bool) (ha : a.length ≤ 9223372036854775807) (hb : b.length ≤ 9223372036854775807) (hc : c.length ≤ 9223372036854775807) (hl : 100 < a.length ∨ 100 < b.length ∨ 100 < c.length) (w : World) (hg : Gb w) :
    Calls Tryz.prog 4 #[.string (bstr a), .string (bstr b), .string (bstr c), .bool da, .bool db, .bool dc] w fun e w' => e = .returned (.bool true) ∧ Below w.heap.size w w' := by
  have kk := known_any w hg
  have sa := bstr_size a; have sb := bstr_size b; have sc := bstr_size c
  clear hg
  by_cases h1 : 100 < a.length
  · clear hl
    go_enter Tryz.func4, Tryz.ntmps4
    go_wp2_with (go_at_call 10; (with_reducible refine kk.mono ?_); rintro e w1 ⟨rfl, hb1⟩)
    go_ret
    exact ⟨rfl, hb1⟩
  · by_cases h2 : 100 < b.length
    · clear hl
      go_enter Tryz.func4, Tryz.ntmps4
      go_wp2_with (go_at_call 10; (with_reducible refine kk.mono ?_); rintro e w1 ⟨rfl, hb1⟩)
      go_ret
      exact ⟨rfl, hb1⟩
    · have h3 : 100 < c.length := by omega
      clear hl
      go_enter Tryz.func4, Tryz.ntmps4
      go_wp2_with (go_at_call 10; (with_reducible refine kk.mono ?_); rintro e w1 ⟨rfl, hb1⟩)
      go_ret
      exact ⟨rfl, hb1⟩
/-- three entries on memory -/
structure Thr (w : World) (g1 g2 g3 : Nat) (x y z : En) : Prop where
  e1 : w.heap[g1]? = some (.cells (ecell x).toArray 40 (0, 0))
  e2 : w.heap[g2]? = some (.cells (ecell y).toArray 40 (0, 0))
  e3 : w.heap[g3]? = some (.cells (ecell z).toArray 40 (0, 0))
  d12 : g1 < g2
  d23 : g2 < g3
theorem Thr.below {w w' : World} {g1 g2 g3 : Nat} {x y z : En} (h : Thr w g1 g2 g3 x y z) (hb : Below w.heap.size w w') : Thr w' g1 g2 g3 x y z :=
  ⟨(hb.block _ (Array.getElem?_eq_some_iff.1 h.e1).1).trans h.e1, (hb.block _ (Array.getElem?_eq_some_iff.1 h.e2).1).trans h.e2, (hb.block _ (Array.getElem?_eq_some_iff.1 h.e3).1).trans h.e3, h.d12, h.d23⟩
theorem Thr.load1 {w : World} {g1 g2 g3 : Nat} {x y z : En} (h : Thr w g1 g2 g3 x y z) (h20 : x.id.length = 20) : (loadVar 40 ⟨g1, 0, none⟩).run Tryz.prog w = .ok (ev x) w := load_ent h20 (Sl.of_block h.e1 (fun j v hj => by simpa using hj))
theorem Thr.load2 {w : World} {g1 g2 g3 : Nat} {x y z : En} (h : Thr w g1 g2 g3 x y z) (h20 : y.id.length = 20) : (loadVar 40 ⟨g2, 0, none⟩).run Tryz.prog w = .ok (ev y) w := load_ent h20 (Sl.of_block h.e2 (fun j v hj => by simpa using hj))
theorem Thr.load3 {w : World} {g1 g2 g3 : Nat} {x y z : En} (h : Thr w g1 g2 g3 x y z) (h20 : z.id.length = 20) : (loadVar 40 ⟨g3, 0, none⟩).run Tryz.prog w = .ok (ev z) w := load_ent h20 (Sl.of_block h.e3 (fun j v hj => by simpa using hj))
/-- one of the three is turned into a folder -/
theorem Thr.set1 {w w' : World} {g1 g2 g3 : Nat} {m : Int} {s : List UInt8} {y z : En} (h : Thr w g1 g2 g3 ⟨m, s, zs20⟩ y z) (n : Int) (hr : w'.heap[g1]? = some (.cells ((ecell ⟨m, s, zs20⟩).toArray.setIfInBounds 0 (.int .i64 n)) 40 (0, 0))) (hk : Kp (fun k => k = g1) w w') : Thr w' g1 g2 g3 ⟨n, s, zs20⟩ y z := by
  have := h.d12; have := h.d23
  exact ⟨by rw [hr, ecell_set], (hk.block _ (Array.getElem?_eq_some_iff.1 h.e2).1 (by omega)).trans h.e2, (hk.block _ (Array.getElem?_eq_some_iff.1 h.e3).1 (by omega)).trans h.e3, h.d12, h.d23⟩
theorem Thr.set2 {w w' : World} {g1 g2 g3 : Nat} {m : Int} {s : List UInt8} {x z : En} (h : Thr w g1 g2 g3 x ⟨m, s, zs20⟩ z) (n : Int) (hr : w'.heap[g2]? = some (.cells ((ecell ⟨m, s, zs20⟩).toArray.setIfInBounds 0 (.int .i64 n)) 40 (0, 0))) (hk : Kp (fun k => k = g2) w w') : Thr w' g1 g2 g3 x ⟨n, s, zs20⟩ z := by
  have := h.d12; have := h.d23
  exact ⟨(hk.block _ (Array.getElem?_eq_some_iff.1 h.e1).1 (by omega)).trans h.e1, by rw [hr, ecell_set], (hk.block _ (Array.getElem?_eq_some_iff.1 h.e3).1 (by omega)).trans h.e3, h.d12, h.d23⟩
theorem Thr.set3 {w w' : World} {g1 g2 g3 : Nat} {m : Int} {s : List UInt8} {x y : En} (h : Thr w g1 g2 g3 x y ⟨m, s, zs20⟩) (n : Int) (hr : w'.heap[g3]? = some (.cells ((ecell ⟨m, s, zs20⟩).toArray.setIfInBounds 0 (.int .i64 n)) 40 (0, 0))) (hk : Kp (fun k => k = g3) w w') : Thr w' g1 g2 g3 x y ⟨n, s, zs20⟩ := by
  have := h.d12; have := h.d23
  exact ⟨(hk.block _ (Array.getElem?_eq_some_iff.1 h.e1).1 (by omega)).trans h.e1, (hk.block _ (Array.getElem?_eq_some_iff.1 h.e2).1 (by omega)).trans h.e2, by rw [hr, ecell_set], h.d12, h.d23⟩
theorem esz (m : Int) (s : List UInt8) : 0 < (ecell ⟨m, s, zs20⟩).toArray.size := by simp [ecell]
theorem order_law (a b c : List UInt8) (da db dc : Bool) (ha : a.length ≤ 100) (hb : b.length ≤ 100) (hc : c.length ≤ 100) (w : World) (hg : Gb w) :
    Calls Tryz.prog 4 #[.string (bstr a), .string (bstr b), .string (bstr c), .bool da, .bool db, .bool dc] w fun e w' => e = .returned (.bool true) ∧ Below w.heap.size w w' := by
  have kk := known_any w hg
  have sa := bstr_size a; have sb := bstr_size b; have sc := bstr_size c
  have zx : ∀ m s, Hid ((Tryz.prog.info? 40).map (·.size) = some (ecell ⟨m, s, zs20⟩).toArray.size) := fun m s => Lib.hid (infoEn zs20_len)
  have zs : ∀ m s, Hid (zen.size = (ecell ⟨m, s, zs20⟩).toArray.size) := fun m s => Lib.hid (zen_size zs20_len)
  have zo : ∀ m s, Hid ((ecell ⟨m, s, zs20⟩).toArray.all (·.oneCell') = true) := fun m s => Lib.hid (ecell_one _)
  clear hg
  go_enter Tryz.func4, Tryz.ntmps4
  go_upto_region 6 with (first
    | (go_at_call 10; (with_reducible refine kk.mono ?_); rintro e w1 ⟨rfl, hb1⟩)
    | (refine wpList_buildE rfl (.const (.int .i64 33188)) (.tmp 33) rfl 33188 a rfl rfl ?_)
    | (simp only [zenlit]; refine wpList_store_row rfl 40 (.tmp 13) (.tmp 34) rfl w1.heap.size (ecell ⟨33188, a, zs20⟩).toArray rfl rfl 40 zen (heap_alloc_new _ _) (zx _ _).out (zs _ _).out (zo _ _).out ?_))
  obtain ⟨r2, b2⟩ := new_set w1 40 zen (ecell ⟨33188, a, zs20⟩).toArray
  obtain ⟨W2, hW2⟩ : ∃ W2, W2 = (w1.alloc (.cells zen 40)).setRow w1.heap.size (ecell ⟨33188, a, zs20⟩).toArray := ⟨_, rfl⟩
  rw [← hW2] at r2 b2
  try simp only [Act.put]
  rw [← hW2]
  have HB2 := Lib.hid (hb1.trans (b2.mono hb1.size)); have R2 := Lib.hid r2
  have HSZ := Lib.hid hb1.size
  clear hW2 r2 b2 hb1
  go_upto_region 7 with (first
    | (refine wpList_buildE rfl (.const (.int .i64 33188)) (.tmp 35) rfl 33188 b rfl rfl ?_)
    | (simp only [zenlit]; refine wpList_store_row rfl 40 (.tmp 14) (.tmp 36) rfl W2.heap.size (ecell ⟨33188, b, zs20⟩).toArray rfl rfl 40 zen (heap_alloc_new _ _) (zx _ _).out (zs _ _).out (zo _ _).out ?_))
  obtain ⟨r3, b3⟩ := new_set W2 40 zen (ecell ⟨33188, b, zs20⟩).toArray
  obtain ⟨W3, hW3⟩ : ∃ W3, W3 = (W2.alloc (.cells zen 40)).setRow W2.heap.size (ecell ⟨33188, b, zs20⟩).toArray := ⟨_, rfl⟩
  rw [← hW3] at r3 b3
  try simp only [Act.put]
  rw [← hW3]
  have HB3 := Lib.hid (HB2.out.trans (b3.mono HB2.out.size)); have R3 := Lib.hid r3; have R23 := Lib.hid ((b3.block _ (Array.getElem?_eq_some_iff.1 R2.out).1).trans R2.out)
  clear hW3 r3 b3
  go_upto_if 39 with (first
    | (refine wpList_buildE rfl (.const (.int .i64 33188)) (.tmp 37) rfl 33188 c rfl rfl ?_)
    | (simp only [zenlit]; refine wpList_store_row rfl 40 (.tmp 15) (.tmp 38) rfl W3.heap.size (ecell ⟨33188, c, zs20⟩).toArray rfl rfl 40 zen (heap_alloc_new _ _) (zx _ _).out (zs _ _).out (zo _ _).out ?_))
  obtain ⟨r4, b4⟩ := new_set W3 40 zen (ecell ⟨33188, c, zs20⟩).toArray
  obtain ⟨W4, hW4⟩ : ∃ W4, W4 = (W3.alloc (.cells zen 40)).setRow W3.heap.size (ecell ⟨33188, c, zs20⟩).toArray := ⟨_, rfl⟩
  rw [← hW4] at r4 b4
  try simp only [Act.put]
  rw [← hW4]
  obtain ⟨g1, hg1⟩ : ∃ g1, g1 = w1.heap.size := ⟨_, rfl⟩
  obtain ⟨g2, hg2⟩ : ∃ g2, g2 = W2.heap.size := ⟨_, rfl⟩
  obtain ⟨g3, hg3⟩ : ∃ g3, g3 = W3.heap.size := ⟨_, rfl⟩
  have q1 := (Array.getElem?_eq_some_iff.1 R2.out).1
  have q2 := (Array.getElem?_eq_some_iff.1 R3.out).1
  have T4 : Thr W4 g1 g2 g3 ⟨33188, a, zs20⟩ ⟨33188, b, zs20⟩ ⟨33188, c, zs20⟩ :=
    ⟨by rw [hg1]; exact (b4.block _ (Array.getElem?_eq_some_iff.1 R23.out).1).trans R23.out, by rw [hg2]; exact (b4.block _ q2).trans R3.out, by rw [hg3]; exact r4, by omega, by omega⟩
  have hbw := HB3.out.trans (b4.mono HB3.out.size)
  have hw1 : w.heap.size ≤ g1 := by rw [hg1]; exact HSZ.out
  rw [← hg1, ← hg2, ← hg3]
  clear R2 R3 R23 HB2 HB3 r4 b4 hW4 hg1 hg2 hg3 q1 q2
  go_cut [] (fun wx => Hid (Thr wx g1 g2 g3 ⟨moI da, a, zs20⟩ ⟨33188, b, zs20⟩ ⟨33188, c, zs20⟩) ∧ Below w.heap.size w wx)
  case first =>
    have HT := Lib.hid T4
    clear T4
    cases da with
    | false =>
      go_wp2
      go_meet
      case rel => exact ⟨HT, hbw⟩
    | true =>
      go_wp2_with (refine wpList_storeC rfl 3 (fun w => by kernel_rfl) (.tmp 40) (.const (.int .i64 16384)) rfl g1 0 (.int .i64 16384) rfl rfl 40 _ HT.out.e1 (esz _ _) rfl ?_
                   intro w5 r5 k5 z5)
      go_meet
      case rel => exact ⟨Lib.hid (HT.out.set1 16384 r5 k5), hbw.trans (k5.toBelow hbw.size (fun k hk e => by omega))⟩
  case rest =>
  clear hbw T4
  obtain ⟨HT, hbw⟩ := hcut
  go_upto_if 41 with (fail)
  go_cut [] (fun wx => Hid (Thr wx g1 g2 g3 ⟨moI da, a, zs20⟩ ⟨moI db, b, zs20⟩ ⟨33188, c, zs20⟩) ∧ Below w.heap.size w wx)
  case first =>
    cases db with
    | false =>
      go_wp2
      go_meet
      case rel => exact ⟨HT, hbw⟩
    | true =>
      go_wp2_with (refine wpList_storeC rfl 3 (fun w => by kernel_rfl) (.tmp 42) (.const (.int .i64 16384)) rfl g2 0 (.int .i64 16384) rfl rfl 40 _ HT.out.e2 (esz _ _) rfl ?_
                   intro w5 r5 k5 z5)
      go_meet
      case rel => exact ⟨Lib.hid (HT.out.set2 16384 r5 k5), hbw.trans (k5.toBelow hbw.size (fun k hk e => by have := HT.out.d12; have := HT.out.d23; omega))⟩
  case rest =>
  clear hbw HT
  obtain ⟨HT, hbw⟩ := hcut
  go_upto_if 43 with (fail)
  go_cut [] (fun wx => Hid (Thr wx g1 g2 g3 ⟨moI da, a, zs20⟩ ⟨moI db, b, zs20⟩ ⟨moI dc, c, zs20⟩) ∧ Below w.heap.size w wx)
  case first =>
    cases dc with
    | false =>
      go_wp2
      go_meet
      case rel => exact ⟨HT, hbw⟩
    | true =>
      go_wp2_with (refine wpList_storeC rfl 3 (fun w => by kernel_rfl) (.tmp 44) (.const (.int .i64 16384)) rfl g3 0 (.int .i64 16384) rfl rfl 40 _ HT.out.e3 (esz _ _) rfl ?_
                   intro w5 r5 k5 z5)
      go_meet
      case rel => exact ⟨Lib.hid (HT.out.set3 16384 r5 k5), hbw.trans (k5.toBelow hbw.size (fun k hk e => by have := HT.out.d12; have := HT.out.d23; omega))⟩
  case rest =>
  clear hbw HT
  obtain ⟨HT, hbw⟩ := hcut
  obtain ⟨kx, hkx⟩ : ∃ kx, kx = keyI (moI da) a := ⟨_, rfl⟩
  obtain ⟨ky, hky⟩ : ∃ ky, ky = keyI (moI db) b := ⟨_, rfl⟩
  obtain ⟨kz, hkz⟩ : ∃ kz, kz = keyI (moI dc) c := ⟨_, rfl⟩
  have kord : ∀ (u v : En), u.id = zs20 → v.id = zs20 → u.name.length ≤ 100 → v.name.length ≤ 100 → ∀ w', Below wc.heap.size wc w' → Calls Tryz.prog 22 #[ev u, ev v] w' fun e w'' => e = .returned (.int .i64 (ordI (keyI u.mode u.name) (keyI v.mode v.name))) ∧ Below wc.heap.size wc w'' := fun u v hu hv h1 h2 w' h =>
    quietB h (order_any u v (by rw [hu]; rfl) (by rw [hv]; rfl) (by omega) (by omega) w')
  have kxy := kord ⟨moI da, a, zs20⟩ ⟨moI db, b, zs20⟩ rfl rfl ha hb
  have kyz := kord ⟨moI db, b, zs20⟩ ⟨moI dc, c, zs20⟩ rfl rfl hb hc
  have kyx := kord ⟨moI db, b, zs20⟩ ⟨moI da, a, zs20⟩ rfl rfl hb ha
  have kxx := kord ⟨moI da, a, zs20⟩ ⟨moI da, a, zs20⟩ rfl rfl ha ha
  have kxz := kord ⟨moI da, a, zs20⟩ ⟨moI dc, c, zs20⟩ rfl rfl ha hc
  dsimp only at kxy kyz kyx kxx kxz
  rw [← hkx, ← hky] at kxy kyx
  rw [← hky, ← hkz] at kyz
  rw [← hkx] at kxx
  rw [← hkx, ← hkz] at kxz
  rw [ordI_neg kx ky] at kyx
  rw [ordI_self] at kxx
  have l1 : ∀ w', Below wc.heap.size wc w' → (loadVar 40 ⟨g1, 0, none⟩).run Tryz.prog w' = .ok (ev ⟨moI da, a, zs20⟩) w' := fun w' h => (HT.out.below h).load1 rfl
  have l2 : ∀ w', Below wc.heap.size wc w' → (loadVar 40 ⟨g2, 0, none⟩).run Tryz.prog w' = .ok (ev ⟨moI db, b, zs20⟩) w' := fun w' h => (HT.out.below h).load2 rfl
  have l3 : ∀ w', Below wc.heap.size wc w' → (loadVar 40 ⟨g3, 0, none⟩).run Tryz.prog w' = .ok (ev ⟨moI dc, c, zs20⟩) w' := fun w' h => (HT.out.below h).load3 rfl
  have htr := ordI_trans kx ky kz
  have hz0 : da = db → (ordI kx ky == 0) = decide (a = b) := fun h => by
    rw [ordI_zero, hkx, hky, h]
    exact decide_eq_decide.2 (keyI_inj _ _ _)
  have hbp := ordI_bd kx ky
  obtain ⟨X, hX⟩ : ∃ X, X = ev ⟨moI da, a, zs20⟩ := ⟨_, rfl⟩
  obtain ⟨Y, hY⟩ : ∃ Y, Y = ev ⟨moI db, b, zs20⟩ := ⟨_, rfl⟩
  obtain ⟨Z, hZ⟩ : ∃ Z, Z = ev ⟨moI dc, c, zs20⟩ := ⟨_, rfl⟩
  rw [← hX, ← hY] at kxy kyx
  rw [← hY, ← hZ] at kyz
  rw [← hX] at kxx
  rw [← hX, ← hZ] at kxz
  rw [← hX] at l1
  rw [← hY] at l2
  rw [← hZ] at l3
  obtain ⟨p, hp⟩ : ∃ p, p = ordI kx ky := ⟨_, rfl⟩
  obtain ⟨q, hq⟩ : ∃ q, q = ordI ky kz := ⟨_, rfl⟩
  obtain ⟨r, hr⟩ : ∃ r, r = ordI kx kz := ⟨_, rfl⟩
  rw [← hp] at kxy kyx hz0 hbp
  rw [← hq] at kyz
  rw [← hr] at kxz
  rw [← hp, ← hq, ← hr] at htr
  have L1 := Lib.hid l1; have L2 := Lib.hid l2; have L3 := Lib.hid l3; have KXY := Lib.hid kxy; have KYZ := Lib.hid kyz; have KYX := Lib.hid kyx; have KXX := Lib.hid kxx; have KXZ := Lib.hid kxz; have HBW := Lib.hid hbw
  have hself : Below wc.heap.size wc wc := Below.refl _ _
  obtain ⟨e0, he0⟩ : ∃ e0, e0 = decide (a = b) := ⟨_, rfl⟩
  have hab : (bstr a == bstr b) = e0 := by
    rw [he0]
    by_cases h : a = b
    · rw [decide_eq_true h]; exact bstr_eq h
    · rw [decide_eq_false h]; exact bstr_ne h
  have hab2 : (a == b) = e0 := by
    rw [he0]
    by_cases h : a = b
    · rw [decide_eq_true h]; simpa using h
    · rw [decide_eq_false h]; simpa using h
  rw [← he0] at hz0
  clear kord kxy kyz kyx kxx kxz l1 l2 l3 hkx hky hkz hX hY hZ hp hq hr HT hbw he0 sa sb sc ha hb hc zx zs zo kk hw1
  by_cases hE : da = db
  · have hz := hz0 hE
    have hEE : (da == db) = true := by simpa using hE
    clear hz0 hE
    by_cases hp : 0 ≤ p
    · clear htr
      go_wp2_with (first
        | (refine wpList_loadG 40 (.tmp 13) rfl ⟨g1, 0, none⟩ rfl X (L1.out _ (by assumption)) rfl ?_)
        | (refine wpList_loadG 40 (.tmp 14) rfl ⟨g2, 0, none⟩ rfl Y (L2.out _ (by assumption)) rfl ?_)
        | (refine wpList_loadG 40 (.tmp 15) rfl ⟨g3, 0, none⟩ rfl Z (L3.out _ (by assumption)) rfl ?_)
        | (go_at_call 22; (with_reducible refine (KXY.out _ (by assumption)).mono ?_); rintro e w6 ⟨rfl, hb6⟩)
        | (go_at_call 22; (with_reducible refine (KYZ.out _ (by assumption)).mono ?_); rintro e w7 ⟨rfl, hb7⟩)
        | (go_at_call 22; (with_reducible refine (KYX.out _ (by assumption)).mono ?_); rintro e w8 ⟨rfl, hb8⟩)
        | (go_at_call 22; (with_reducible refine (KXX.out _ (by assumption)).mono ?_); rintro e w9 ⟨rfl, hb9⟩)
        | (go_at_call 22; (with_reducible refine (KXZ.out _ (by assumption)).mono ?_); rintro e w10 ⟨rfl, hb10⟩))
      go_ret
      exact ⟨rfl, HBW.out.trans ((by assumption : Below wc.heap.size wc _).mono HBW.out.size)⟩
    · by_cases hq : 0 ≤ q
      · clear htr
        go_wp2_with (first
          | (refine wpList_loadG 40 (.tmp 13) rfl ⟨g1, 0, none⟩ rfl X (L1.out _ (by assumption)) rfl ?_)
          | (refine wpList_loadG 40 (.tmp 14) rfl ⟨g2, 0, none⟩ rfl Y (L2.out _ (by assumption)) rfl ?_)
          | (refine wpList_loadG 40 (.tmp 15) rfl ⟨g3, 0, none⟩ rfl Z (L3.out _ (by assumption)) rfl ?_)
          | (go_at_call 22; (with_reducible refine (KXY.out _ (by assumption)).mono ?_); rintro e w6 ⟨rfl, hb6⟩)
          | (go_at_call 22; (with_reducible refine (KYZ.out _ (by assumption)).mono ?_); rintro e w7 ⟨rfl, hb7⟩)
          | (go_at_call 22; (with_reducible refine (KYX.out _ (by assumption)).mono ?_); rintro e w8 ⟨rfl, hb8⟩)
          | (go_at_call 22; (with_reducible refine (KXX.out _ (by assumption)).mono ?_); rintro e w9 ⟨rfl, hb9⟩)
          | (go_at_call 22; (with_reducible refine (KXZ.out _ (by assumption)).mono ?_); rintro e w10 ⟨rfl, hb10⟩))
        go_ret
        exact ⟨rfl, HBW.out.trans ((by assumption : Below wc.heap.size wc _).mono HBW.out.size)⟩
      · have hrr := htr (by omega) (by omega)
        have hd1 : decide (0 ≤ p) = false := decide_eq_false hp
        have hd2 : decide (0 ≤ q) = false := decide_eq_false hq
        have hd3 : decide (r < 0) = true := decide_eq_true hrr
        clear htr
        go_wp2_with (first
          | (refine wpList_loadG 40 (.tmp 13) rfl ⟨g1, 0, none⟩ rfl X (L1.out _ (by assumption)) rfl ?_)
          | (refine wpList_loadG 40 (.tmp 14) rfl ⟨g2, 0, none⟩ rfl Y (L2.out _ (by assumption)) rfl ?_)
          | (refine wpList_loadG 40 (.tmp 15) rfl ⟨g3, 0, none⟩ rfl Z (L3.out _ (by assumption)) rfl ?_)
          | (go_at_call 22; (with_reducible refine (KXY.out _ (by assumption)).mono ?_); rintro e w6 ⟨rfl, hb6⟩)
          | (go_at_call 22; (with_reducible refine (KYZ.out _ (by assumption)).mono ?_); rintro e w7 ⟨rfl, hb7⟩)
          | (go_at_call 22; (with_reducible refine (KYX.out _ (by assumption)).mono ?_); rintro e w8 ⟨rfl, hb8⟩)
          | (go_at_call 22; (with_reducible refine (KXX.out _ (by assumption)).mono ?_); rintro e w9 ⟨rfl, hb9⟩)
          | (go_at_call 22; (with_reducible refine (KXZ.out _ (by assumption)).mono ?_); rintro e w10 ⟨rfl, hb10⟩))
        go_ret
        exact ⟨rfl, HBW.out.trans ((by assumption : Below wc.heap.size wc _).mono HBW.out.size)⟩
  · have hEE : (da == db) = false := by simpa using hE
    clear hz0 hE
    by_cases hp : 0 ≤ p
    · clear htr
      go_wp2_with (first
        | (refine wpList_loadG 40 (.tmp 13) rfl ⟨g1, 0, none⟩ rfl X (L1.out _ (by assumption)) rfl ?_)
        | (refine wpList_loadG 40 (.tmp 14) rfl ⟨g2, 0, none⟩ rfl Y (L2.out _ (by assumption)) rfl ?_)
        | (refine wpList_loadG 40 (.tmp 15) rfl ⟨g3, 0, none⟩ rfl Z (L3.out _ (by assumption)) rfl ?_)
        | (go_at_call 22; (with_reducible refine (KXY.out _ (by assumption)).mono ?_); rintro e w6 ⟨rfl, hb6⟩)
        | (go_at_call 22; (with_reducible refine (KYZ.out _ (by assumption)).mono ?_); rintro e w7 ⟨rfl, hb7⟩)
        | (go_at_call 22; (with_reducible refine (KYX.out _ (by assumption)).mono ?_); rintro e w8 ⟨rfl, hb8⟩)
        | (go_at_call 22; (with_reducible refine (KXX.out _ (by assumption)).mono ?_); rintro e w9 ⟨rfl, hb9⟩)
        | (go_at_call 22; (with_reducible refine (KXZ.out _ (by assumption)).mono ?_); rintro e w10 ⟨rfl, hb10⟩))
      go_ret
      exact ⟨rfl, HBW.out.trans ((by assumption : Below wc.heap.size wc _).mono HBW.out.size)⟩
    · by_cases hq : 0 ≤ q
      · clear htr
        go_wp2_with (first
          | (refine wpList_loadG 40 (.tmp 13) rfl ⟨g1, 0, none⟩ rfl X (L1.out _ (by assumption)) rfl ?_)
          | (refine wpList_loadG 40 (.tmp 14) rfl ⟨g2, 0, none⟩ rfl Y (L2.out _ (by assumption)) rfl ?_)
          | (refine wpList_loadG 40 (.tmp 15) rfl ⟨g3, 0, none⟩ rfl Z (L3.out _ (by assumption)) rfl ?_)
          | (go_at_call 22; (with_reducible refine (KXY.out _ (by assumption)).mono ?_); rintro e w6 ⟨rfl, hb6⟩)
          | (go_at_call 22; (with_reducible refine (KYZ.out _ (by assumption)).mono ?_); rintro e w7 ⟨rfl, hb7⟩)
          | (go_at_call 22; (with_reducible refine (KYX.out _ (by assumption)).mono ?_); rintro e w8 ⟨rfl, hb8⟩)
          | (go_at_call 22; (with_reducible refine (KXX.out _ (by assumption)).mono ?_); rintro e w9 ⟨rfl, hb9⟩)
          | (go_at_call 22; (with_reducible refine (KXZ.out _ (by assumption)).mono ?_); rintro e w10 ⟨rfl, hb10⟩))
        go_ret
        exact ⟨rfl, HBW.out.trans ((by assumption : Below wc.heap.size wc _).mono HBW.out.size)⟩
      · have hrr := htr (by omega) (by omega)
        have hd1 : decide (0 ≤ p) = false := decide_eq_false hp
        have hd2 : decide (0 ≤ q) = false := decide_eq_false hq
        have hd3 : decide (r < 0) = true := decide_eq_true hrr
        clear htr
        go_wp2_with (first
          | (refine wpList_loadG 40 (.tmp 13) rfl ⟨g1, 0, none⟩ rfl X (L1.out _ (by assumption)) rfl ?_)
          | (refine wpList_loadG 40 (.tmp 14) rfl ⟨g2, 0, none⟩ rfl Y (L2.out _ (by assumption)) rfl ?_)
          | (refine wpList_loadG 40 (.tmp 15) rfl ⟨g3, 0, none⟩ rfl Z (L3.out _ (by assumption)) rfl ?_)
          | (go_at_call 22; (with_reducible refine (KXY.out _ (by assumption)).mono ?_); rintro e w6 ⟨rfl, hb6⟩)
          | (go_at_call 22; (with_reducible refine (KYZ.out _ (by assumption)).mono ?_); rintro e w7 ⟨rfl, hb7⟩)
          | (go_at_call 22; (with_reducible refine (KYX.out _ (by assumption)).mono ?_); rintro e w8 ⟨rfl, hb8⟩)
          | (go_at_call 22; (with_reducible refine (KXX.out _ (by assumption)).mono ?_); rintro e w9 ⟨rfl, hb9⟩)
          | (go_at_call 22; (with_reducible refine (KXZ.out _ (by assumption)).mono ?_); rintro e w10 ⟨rfl, hb10⟩))
        go_ret
        exact ⟨rfl, HBW.out.trans ((by assumption : Below wc.heap.size wc _).mono HBW.out.size)⟩
theorem order_all (a b c : ByteArray) (da db dc : Bool) (ha : a.size ≤ 9223372036854775807) (hb : b.size ≤ 9223372036854775807) (hc : c.size ≤ 9223372036854775807) (w : World) (hg : Gb w) :
    Calls Tryz.prog 4 #[.string a, .string b, .string c, .bool da, .bool db, .bool dc] w fun e w' => e = .returned (.bool true) ∧ Below w.heap.size w w' := by
  have ea : a.data.toList.length = a.size := by simp
  have eb : b.data.toList.length = b.size := by simp
  have ec : c.data.toList.length = c.size := by simp
  by_cases h : a.size ≤ 100 ∧ b.size ≤ 100 ∧ c.size ≤ 100
  · exact order_law a.data.toList b.data.toList c.data.toList da db dc (by omega) (by omega) (by omega) w hg
  · exact order_pass a.data.toList b.data.toList c.data.toList da db dc (by omega) (by omega) (by omega) (by omega) w hg
end
section
set_option linter.unusedVariables false
def modeD (m : Int) : List UInt8 := if m = 16384 then [52, 48, 48, 48, 48] else if m = 33188 then [49, 48, 48, 54, 52, 52] else if m = 33261 then [49, 48, 48, 55, 53, 53] else if m = 40960 then [49, 50, 48, 48, 48, 48] else if m = 57344 then [49, 54, 48, 48, 48, 48] else []
def modeI (s : List UInt8) : Nat × Bool := if s = modeD 16384 then (16384, true) else if s = modeD 33188 then (33188, true) else if s = modeD 33261 then (33261, true) else if s = modeD 40960 then (40960, true) else if s = modeD 57344 then (57344, true) else (0, false)
def namedI (s : List UInt8) : Bool := !(s == []) && !(s == [46]) && !(s == [46, 46]) && !(s == [46, 103, 105, 116]) && decide (s.length ≤ 100) && !(s.contains 47) && !(s.contains 0)
def enB (e : En) : List UInt8 := modeD e.mode ++ 32 :: (e.name ++ 0 :: e.id)
def treeB (l : List En) : List UInt8 := l.flatMap enB
def okE (e : En) : Bool := !(modeD e.mode == []) && namedI e.name
def oI (a b : En) : Int := ordI (keyI a.mode a.name) (keyI b.mode b.name)
/-- may an entry stand behind these? -/
def ordQ (p : List En) (e : En) : Bool := !((p.map (·.name)).contains e.name) && (match p.getLast? with
  | none => true
  | some q => decide (oI q e < 0))
def ordE : List En → List En → Bool
  | _, [] => true
  | p, e :: l => ordQ p e && ordE (p ++ [e]) l
def encTr (l : List En) : List UInt8 × Nat := if 512 < l.length ∨ l.all okE = false then ([], 1) else if ordE [] l = false then ([], 2) else if 16384 < (treeB l).length then ([], 5) else (treeB l, 0)
def entI (s : List UInt8) : Option (En × List UInt8) :=
  if (Lib.cut s [0]).2.2 = true ∧ (Lib.cut (Lib.cut s [0]).1 [32]).2.2 = true ∧ (modeI (Lib.cut (Lib.cut s [0]).1 [32]).1).2 = true ∧ namedI (Lib.cut (Lib.cut s [0]).1 [32]).2.1 = true ∧ 20 ≤ (Lib.cut s [0]).2.1.length then
    some (⟨((modeI (Lib.cut (Lib.cut s [0]).1 [32]).1).1 : Int), (Lib.cut (Lib.cut s [0]).1 [32]).2.1, (Lib.cut s [0]).2.1.take 20⟩, (Lib.cut s [0]).2.1.drop 20) else none
def entsI : Nat → List UInt8 → Option (List En)
  | 0, _ => some []
  | n + 1, s => if s = [] then some [] else match entI s with
    | none => none
    | some (e, r) => (entsI n r).map (e :: ·)
def decTr (b : List UInt8) : List En × Nat := if 16384 < b.length then ([], 5) else match entsI (b.length + 1) b with
  | none => ([], 2)
  | some l => if ordE [] l = false then ([], 2) else if 512 < l.length then ([], 5) else (l, 0)
theorem mode_sign (m : Int) : ∀ c ∈ modeD m, c ≠ 0 ∧ c ≠ 32 := by
  intro c h
  unfold modeD at h
  repeat' split at h
  all_goals first | (revert c; decide) | (simp at h)
theorem mode_len (m : Int) : (modeD m).length ≤ 6 := by
  unfold modeD
  repeat' split
  all_goals decide
theorem mode_nat {m : Int} (h : modeD m ≠ []) : ∃ n : Nat, m = (n : Int) ∧ modeI (modeD m) = (n, true) ∧ n ≠ 0 := by
  unfold modeD at h
  by_cases h1 : m = 16384
  · subst h1; exact ⟨16384, rfl, by decide, by decide⟩
  by_cases h2 : m = 33188
  · subst h2; exact ⟨33188, rfl, by decide, by decide⟩
  by_cases h3 : m = 33261
  · subst h3; exact ⟨33261, rfl, by decide, by decide⟩
  by_cases h4 : m = 40960
  · subst h4; exact ⟨40960, rfl, by decide, by decide⟩
  by_cases h5 : m = 57344
  · subst h5; exact ⟨57344, rfl, by decide, by decide⟩
  rw [if_neg h1, if_neg h2, if_neg h3, if_neg h4, if_neg h5] at h
  exact absurd rfl h
theorem mode_some {s : List UInt8} (h : (modeI s).2 = true) : s = modeD ((modeI s).1 : Nat) ∧ s ≠ [] ∧ (modeI s).1 ≠ 0 := by
  unfold modeI at h ⊢
  by_cases h1 : s = modeD 16384
  · rw [if_pos h1]; subst h1; exact ⟨rfl, by decide, by decide⟩
  rw [if_neg h1] at h ⊢
  by_cases h2 : s = modeD 33188
  · rw [if_pos h2]; subst h2; exact ⟨rfl, by decide, by decide⟩
  rw [if_neg h2] at h ⊢
  by_cases h3 : s = modeD 33261
  · rw [if_pos h3]; subst h3; exact ⟨rfl, by decide, by decide⟩
  rw [if_neg h3] at h ⊢
  by_cases h4 : s = modeD 40960
  · rw [if_pos h4]; subst h4; exact ⟨rfl, by decide, by decide⟩
  rw [if_neg h4] at h ⊢
  by_cases h5 : s = modeD 57344
  · rw [if_pos h5]; subst h5; exact ⟨rfl, by decide, by decide⟩
  rw [if_neg h5] at h
  exact absurd h (by decide)
theorem mode_none {s : List UInt8} (h : (modeI s).2 = false) : modeI s = (0, false) := by
  unfold modeI at h ⊢
  repeat' split at h
  all_goals first | (exact absurd h (by decide)) | skip
  all_goals simp_all
theorem named_no {s : List UInt8} (h : namedI s = true) : (0 : UInt8) ∉ s ∧ s.length ≤ 100 := by
  unfold namedI at h
  simp only [Bool.and_eq_true, Bool.not_eq_true', decide_eq_true_eq] at h
  exact ⟨fun e => by have := h.2; simp [e] at this, h.1.1.2⟩
theorem okE_iff {e : En} : okE e = true ↔ modeD e.mode ≠ [] ∧ namedI e.name = true := by
  unfold okE
  simp
/-- an entry's bytes in front are that entry -/
theorem ent_yes {dg nm rest : List UInt8} (hd : (modeI dg).2 = true) (hn : namedI nm = true) (hr : 20 ≤ rest.length) : entI (dg ++ 32 :: (nm ++ 0 :: rest)) = some (⟨((modeI dg).1 : Int), nm, rest.take 20⟩, rest.drop 20) := by
  have hs := (mode_some hd).1
  have n0 : (0 : UInt8) ∉ dg ++ 32 :: nm := fun e => by
    rcases List.mem_append.1 e with e | e
    · rw [hs] at e; exact (mode_sign _ 0 e).1 rfl
    · rcases List.mem_cons.1 e with e | e
      · exact absurd e (by decide)
      · exact (named_no hn).1 e
  have n32 : (32 : UInt8) ∉ dg := fun e => by rw [hs] at e; exact (mode_sign _ 32 e).2 rfl
  have e1 : Lib.cut (dg ++ 32 :: (nm ++ 0 :: rest)) [0] = (dg ++ 32 :: nm, rest, true) := by
    have := cut_yes rest n0
    simpa using this
  have e2 : Lib.cut (dg ++ 32 :: nm) [32] = (dg, nm, true) := cut_yes nm n32
  unfold entI
  rw [e1]
  dsimp only
  rw [e2]
  dsimp only
  rw [if_pos ⟨rfl, rfl, hd, hn, hr⟩]
theorem ent_some {s : List UInt8} {e : En} {r : List UInt8} (h : entI s = some (e, r)) : ∃ dg rest, s = dg ++ 32 :: (e.name ++ 0 :: rest) ∧ (modeI dg).2 = true ∧ e.mode = ((modeI dg).1 : Int) ∧ namedI e.name = true ∧ 20 ≤ rest.length ∧ e.id = rest.take 20 ∧ r = rest.drop 20 := by
  unfold entI at h
  by_cases hc : (Lib.cut s [0]).2.2 = true ∧ (Lib.cut (Lib.cut s [0]).1 [32]).2.2 = true ∧ (modeI (Lib.cut (Lib.cut s [0]).1 [32]).1).2 = true ∧ namedI (Lib.cut (Lib.cut s [0]).1 [32]).2.1 = true ∧ 20 ≤ (Lib.cut s [0]).2.1.length
  · rw [if_pos hc] at h
    injection h with h
    injection h with h1 h2
    subst h1
    obtain ⟨c1, c2, c3, c4, c5⟩ := hc
    have w1 := (cut_whole c1).1
    have w2 := (cut_whole c2).1
    refine ⟨(Lib.cut (Lib.cut s [0]).1 [32]).1, (Lib.cut s [0]).2.1, ?_, c3, rfl, c4, c5, rfl, h2.symm⟩
    conv => lhs; rw [w1]
    conv => lhs; arg 1; rw [w2]
    simp
  · rw [if_neg hc] at h; cases h
theorem ent_len {s : List UInt8} {e : En} {r : List UInt8} (h : entI s = some (e, r)) : r.length + 22 < s.length ∧ e.id.length = 20 ∧ e.name.length ≤ 100 ∧ okE e = true := by
  obtain ⟨dg, rest, e1, e2, e3, e4, e5, e6, e7⟩ := ent_some h
  obtain ⟨m1, m2, _⟩ := mode_some e2
  have : 0 < dg.length := by
    cases dg with
    | nil => exact absurd rfl m2
    | cons => simp
  refine ⟨?_, by rw [e6, List.length_take]; omega, (named_no e4).2, ?_⟩
  · rw [e1, e7]
    simp
    omega
  · rw [okE_iff, e3]
    exact ⟨by rw [← m1]; exact m2, e4⟩
theorem ent_enB {e : En} (h : okE e = true) (h20 : e.id.length = 20) (r : List UInt8) : entI (enB e ++ r) = some (e, r) := by
  obtain ⟨hm, hn⟩ := okE_iff.1 h
  obtain ⟨n, en, hi, _⟩ := mode_nat hm
  have := ent_yes (dg := modeD e.mode) (nm := e.name) (rest := e.id ++ r) (by rw [hi]) hn (by simp [h20])
  unfold enB
  rw [show modeD e.mode ++ 32 :: (e.name ++ 0 :: e.id) ++ r = modeD e.mode ++ 32 :: (e.name ++ 0 :: (e.id ++ r)) by simp, this, hi]
  rw [show (e.id ++ r).take 20 = e.id by rw [← h20]; simp, show (e.id ++ r).drop 20 = r by rw [← h20]; simp]
  dsimp only
  rw [← en]
/-- no entry: no space within nine bytes -/
theorem ent_none9 {s : List UInt8} (h : ∀ j (hj : j < s.length), j < 9 → s[j] ≠ 32) : entI s = none := by
  cases he : entI s with
  | none => rfl
  | some p =>
    obtain ⟨e, r⟩ := p
    obtain ⟨dg, rest, e1, e2, _⟩ := ent_some he
    have hl : dg.length ≤ 6 := by rw [(mode_some e2).1]; exact mode_len _
    subst e1
    exact absurd (by simp) (h dg.length (by simp) (by omega))
theorem cut_uniq {c : UInt8} {a a' b b' : List UInt8} (h : a ++ c :: b = a' ++ c :: b') (h1 : c ∉ a) (h2 : c ∉ a') : a = a' ∧ b = b' := by
  have e1 := cut_yes b h1
  have e2 := cut_yes b' h2
  rw [h, e2] at e1
  injection e1 with e3 e4
  injection e4 with e4 _
  exact ⟨e3.symm, e4.symm⟩
theorem mode_no32 {dg : List UInt8} (h : (modeI dg).2 = true) : (32 : UInt8) ∉ dg := fun e => by
  rw [(mode_some h).1] at e; exact (mode_sign _ 32 e).2 rfl
theorem ent_noneM {dg t : List UInt8} (h : (32 : UInt8) ∉ dg) (hm : (modeI dg).2 = false) : entI (dg ++ 32 :: t) = none := by
  cases he : entI (dg ++ 32 :: t) with
  | none => rfl
  | some p =>
    obtain ⟨e, r⟩ := p
    obtain ⟨dg', rest, e1, e2, _⟩ := ent_some he
    obtain ⟨q, _⟩ := cut_uniq e1 h (mode_no32 e2)
    rw [q, e2] at hm
    cases hm
theorem ent_none0 {dg t : List UInt8} (h : (32 : UInt8) ∉ dg) (h0 : (0 : UInt8) ∉ t) : entI (dg ++ 32 :: t) = none := by
  cases he : entI (dg ++ 32 :: t) with
  | none => rfl
  | some p =>
    obtain ⟨e, r⟩ := p
    obtain ⟨dg', rest, e1, e2, _⟩ := ent_some he
    obtain ⟨_, q⟩ := cut_uniq e1 h (mode_no32 e2)
    exact absurd (by rw [q]; simp) h0
theorem ent_noneR {dg nm rest : List UInt8} (h : (32 : UInt8) ∉ dg) (h0 : (0 : UInt8) ∉ nm) (hr : rest.length < 20 ∨ namedI nm = false) : entI (dg ++ 32 :: (nm ++ 0 :: rest)) = none := by
  cases he : entI (dg ++ 32 :: (nm ++ 0 :: rest)) with
  | none => rfl
  | some p =>
    obtain ⟨e, r⟩ := p
    obtain ⟨dg', rest', e1, e2, _, e4, e5, _⟩ := ent_some he
    obtain ⟨_, q⟩ := cut_uniq e1 h (mode_no32 e2)
    obtain ⟨q1, q2⟩ := cut_uniq q h0 (named_no e4).1
    rcases hr with hr | hr
    · rw [q2] at hr; omega
    · rw [q1, e4] at hr; cases hr
/-- entries that were written are read -/
theorem ents_tree : ∀ (l : List En) (n : Nat), l.length < n → (∀ e ∈ l, okE e = true ∧ e.id.length = 20) → entsI n (treeB l) = some l
  | [], n, h, _ => by
    obtain ⟨m, rfl⟩ : ∃ m, n = m + 1 := ⟨n - 1, by simp at h; omega⟩
    simp [entsI, treeB]
  | e :: l, n, h, hl => by
    obtain ⟨m, rfl⟩ : ∃ m, n = m + 1 := ⟨n - 1, by simp at h; omega⟩
    obtain ⟨h1, h2⟩ := hl e (by simp)
    have hne : treeB (e :: l) ≠ [] := by simp [treeB, enB]
    unfold entsI
    rw [if_neg hne, show treeB (e :: l) = enB e ++ treeB l by simp [treeB], ent_enB h1 h2]
    dsimp only
    rw [ents_tree l m (by simp at h; omega) (fun x hx => hl x (List.mem_cons_of_mem _ hx))]
    rfl
theorem enB_pos (e : En) : 2 ≤ (enB e).length := by simp [enB]; omega
theorem tree_len : ∀ l : List En, l.length ≤ (treeB l).length
  | [] => by simp
  | e :: l => by
    have := tree_len l
    have := enB_pos e
    simp only [treeB, List.flatMap_cons, List.length_append, List.length_cons] at *
    omega
theorem encTr_ok {l : List En} (h : (encTr l).2 = 0) : l.length ≤ 512 ∧ (∀ e ∈ l, okE e = true) ∧ ordE [] l = true ∧ (treeB l).length ≤ 16384 ∧ encTr l = (treeB l, 0) := by
  unfold encTr at h ⊢
  by_cases h1 : 512 < l.length ∨ l.all okE = false
  · rw [if_pos h1] at h; cases h
  rw [if_neg h1] at h ⊢
  by_cases h2 : ordE [] l = false
  · rw [if_pos h2] at h; cases h
  rw [if_neg h2] at h ⊢
  by_cases h3 : 16384 < (treeB l).length
  · rw [if_pos h3] at h; cases h
  rw [if_neg h3]
  refine ⟨by omega, fun e he => ?_, by simpa using h2, by omega, rfl⟩
  have : l.all okE = true := by
    cases hq : l.all okE with
    | true => rfl
    | false => exact absurd (.inr hq) h1
  exact List.all_eq_true.1 this e he
/-- what was written is read -/
theorem decTr_encTr {l : List En} (h20 : ∀ e ∈ l, e.id.length = 20) (h : (encTr l).2 = 0) : decTr (treeB l) = (l, 0) := by
  obtain ⟨h1, h2, h3, h4, _⟩ := encTr_ok h
  unfold decTr
  rw [if_neg (by omega), ents_tree l _ (by have := tree_len l; omega) (fun e he => ⟨h2 e he, h20 e he⟩)]
  dsimp only
  rw [h3, if_neg (by decide), if_neg (by omega)]
theorem ents_len : ∀ (n : Nat) (s : List UInt8) (l : List En), entsI n s = some l → 22 * l.length ≤ s.length ∧ ∀ e ∈ l, e.id.length = 20 ∧ e.name.length ≤ 100 ∧ okE e = true
  | 0, s, l, h => by injection h with h; subst h; simp
  | n + 1, s, l, h => by
    unfold entsI at h
    by_cases hs : s = []
    · rw [if_pos hs] at h
      injection h with h
      subst h
      simp
    · rw [if_neg hs] at h
      cases he : entI s with
      | none => rw [he] at h; cases h
      | some p =>
        obtain ⟨e, r⟩ := p
        rw [he] at h
        dsimp only at h
        obtain ⟨l', h1, h2⟩ := Option.map_eq_some_iff.1 h
        subst h2
        obtain ⟨i1, i2⟩ := ents_len n r l' h1
        obtain ⟨j1, j2, j3, j4⟩ := ent_len he
        refine ⟨by simp; omega, fun x hx => ?_⟩
        rcases List.mem_cons.1 hx with rfl | hx
        · exact ⟨j2, j3, j4⟩
        · exact i2 x hx
/-- more steps change nothing -/
theorem ents_more : ∀ (n m : Nat) (s : List UInt8), s.length < n → s.length < m → entsI n s = entsI m s
  | 0, _, s, h, _ => absurd h (by omega)
  | n + 1, m, s, h, h' => by
    obtain ⟨k, rfl⟩ : ∃ k, m = k + 1 := ⟨m - 1, by omega⟩
    unfold entsI
    by_cases hs : s = []
    · rw [if_pos hs, if_pos hs]
    · rw [if_neg hs, if_neg hs]
      cases he : entI s with
      | none => rfl
      | some p =>
        obtain ⟨e, r⟩ := p
        have := (ent_len he).1
        dsimp only
        rw [ents_more n k r (by omega) (by omega)]
/-- step by step: those ahead, what is left -/
def entsF (s : List UInt8) : Option (List En) := entsI (s.length + 1) s
theorem entsF_nil : entsF [] = some [] := rfl
theorem entsF_none {s : List UInt8} (hs : s ≠ []) (h : entI s = none) : entsF s = none := by
  unfold entsF entsI
  rw [if_neg hs, h]
theorem entsF_some {s : List UInt8} (hs : s ≠ []) {e : En} {r : List UInt8} (h : entI s = some (e, r)) : entsF s = (entsF r).map (e :: ·) := by
  unfold entsF
  conv => lhs; unfold entsI
  rw [if_neg hs, h]
  dsimp only
  rw [ents_more s.length (r.length + 1) r (by have := (ent_len h).1; omega) (by omega)]
theorem decTr_eq (b : List UInt8) : decTr b = if 16384 < b.length then ([], 5) else match entsF b with
  | none => ([], 2)
  | some l => if ordE [] l = false then ([], 2) else if 512 < l.length then ([], 5) else (l, 0) := rfl
theorem decTr_good {b : List UInt8} : ∀ e ∈ (decTr b).1, e.id.length = 20 ∧ e.name.length ≤ 100 ∧ okE e = true := by
  intro e he
  rw [decTr_eq] at he
  by_cases hl : 16384 < b.length
  · rw [if_pos hl] at he; simp at he
  rw [if_neg hl] at he
  cases h : entsF b with
  | none => rw [h] at he; simp at he
  | some l =>
    rw [h] at he
    dsimp only at he
    by_cases h1 : ordE [] l = false
    · rw [if_pos h1] at he; simp at he
    · rw [if_neg h1] at he
      by_cases h2 : 512 < l.length
      · rw [if_pos h2] at he; simp at he
      · rw [if_neg h2] at he
        exact (ents_len _ _ _ h).2 e he
end
section
open Go.RowKit
open Go.ChangeMaps (setBlock)
set_option maxRecDepth 100000
set_option maxHeartbeats 1000000
set_option linter.unusedVariables false
section
variable {α β : Type} {P : Program} {k e t : TypeId} {kv : α → Value} {vv : β → Value} {w w' : World} {b : Nat} {L : List (α × β)}
/-- a map's block holds these pairs, born in this order -/
def MapIs (P : Program) (k : TypeId) (kv : α → Value) (vv : β → Value) (w : World) (b : Nat) (L : List (α × β)) : Prop :=
  ∃ es clock, w.heap[b]? = some (.map es clock) ∧ es.toList.map (fun e => (e.key, e.val)) = L.map (fun p => (kv p.1, vv p.2)) ∧ (∀ p ∈ L, ∃ l, keyOf P k (kv p.1) = some l) ∧ (L.map (·.1)).Nodup ∧
    (es.toList.map (·.born)).Pairwise (· < ·) ∧ ∀ e ∈ es.toList, e.born < clock
theorem MapIs.made (w : World) : MapIs P k kv vv (w.alloc (.map #[] 0)) w.heap.size ([] : List (α × β)) :=
  ⟨#[], 0, heap_alloc_new _ _, rfl, by simp, by simp, by simp, by simp⟩
theorem MapIs.keep (h : MapIs P k kv vv w b L) (hb : w'.heap[b]? = w.heap[b]?) : MapIs P k kv vv w' b L := by
  obtain ⟨es, clock, h1, h2⟩ := h
  exact ⟨es, clock, hb.trans h1, h2⟩
theorem MapIs.lt (h : MapIs P k kv vv w b L) : b < w.heap.size := by
  obtain ⟨es, clock, h1, _⟩ := h
  exact (Array.getElem?_eq_some_iff.1 h1).1
theorem MapIs.below (h : MapIs P k kv vv w b L) (hb : Below w.heap.size w w') : MapIs P k kv vv w' b L := h.keep (hb.block _ h.lt)
theorem MapIs.kp {S : Nat → Prop} (h : MapIs P k kv vv w b L) (hk : Kp S w w') (hs : ¬ S b) : MapIs P k kv vv w' b L := h.keep (hk.block _ h.lt hs)
theorem MapIs.nodup (h : MapIs P k kv vv w b L) : (L.map (·.1)).Nodup := by
  obtain ⟨_, _, _, _, _, h, _⟩ := h
  exact h
theorem map_entry {es : List MapEntry} (h : es.map (fun e => (e.key, e.val)) = L.map (fun p => (kv p.1, vv p.2))) {j : Nat} {e0 : MapEntry} (he : es[j]? = some e0) : ∃ p, L[j]? = some p ∧ e0.key = kv p.1 ∧ e0.val = vv p.2 := by
  have h1 : (es.map (fun e => (e.key, e.val)))[j]? = some (e0.key, e0.val) := by rw [List.getElem?_map, he]; rfl
  rw [h, List.getElem?_map] at h1
  obtain ⟨p, hp, e⟩ := Option.map_eq_some_iff.1 h1
  injection e with e1 e2
  exact ⟨p, hp, e1.symm, e2.symm⟩
theorem map_entry' {es : List MapEntry} (h : es.map (fun e => (e.key, e.val)) = L.map (fun p => (kv p.1, vv p.2))) {j : Nat} {p : α × β} (hp : L[j]? = some p) : ∃ e0, es[j]? = some e0 ∧ e0.key = kv p.1 ∧ e0.val = vv p.2 := by
  have h1 : (L.map (fun p => (kv p.1, vv p.2)))[j]? = some (kv p.1, vv p.2) := by rw [List.getElem?_map, hp]; rfl
  rw [← h, List.getElem?_map] at h1
  obtain ⟨e0, he, e⟩ := Option.map_eq_some_iff.1 h1
  injection e with e1 e2
  exact ⟨e0, he, e1, e2⟩
theorem map_keys {es : List MapEntry} (h : es.map (fun e => (e.key, e.val)) = L.map (fun p => (kv p.1, vv p.2))) (hk : ∀ p ∈ L, ∃ l, keyOf P k (kv p.1) = some l) : ∀ e ∈ es, ∃ l, keyOf P k e.key = some l := fun e0 he => by
  obtain ⟨j, hj⟩ := List.mem_iff_getElem?.1 he
  obtain ⟨p, hp, e1, _⟩ := map_entry h hj
  rw [e1]
  exact hk p (List.mem_of_getElem? hp)
theorem setBlock_at (w : World) {b : Nat} (o : Obj) (h : b < w.heap.size) : (setBlock w b o).heap[b]? = some o := by
  simp [setBlock, h]
theorem setBlock_kp (w : World) (b : Nat) (o : Obj) : Kp (fun k => k = b) w (setBlock w b o) :=
  ⟨rfl, rfl, rfl, by simp [setBlock], fun i hi hs => by
    simp only [setBlock]
    rw [Array.getElem?_setIfInBounds_ne (fun e => hs e.symm)]⟩
theorem setBlock_size (w : World) (b : Nat) (o : Obj) : (setBlock w b o).heap.size = w.heap.size := by simp [setBlock]
theorem set_same {γ : Type} {l : List γ} {j : Nat} {x : γ} (h : l[j]? = some x) : l.set j x = l := by
  refine List.ext_getElem? fun i => ?_
  rw [List.getElem?_set]
  by_cases hij : j = i
  · subst hij
    rw [if_pos rfl, if_pos (List.getElem?_eq_some_iff.1 h).1, h]
  · rw [if_neg hij]
end
section
variable {α β : Type} [DecidableEq α] {P : Program} {k e t : TypeId} {kv : α → Value} {vv : β → Value} {w w' : World} {b : Nat} {L : List (α × β)}
/-- the value of a key -/
def mget (L : List (α × β)) (x : α) : Option β := (L.find? (fun p => decide (p.1 = x))).map (·.2)
/-- a key's value laid anew, or a pair more -/
def mset (L : List (α × β)) (x : α) (v : β) : List (α × β) := if x ∈ L.map (·.1) then L.map (fun p => if p.1 = x then (x, v) else p) else L ++ [(x, v)]
theorem mget_none {x : α} (h : x ∉ L.map (·.1)) : mget L x = none := by
  unfold mget
  rw [List.find?_eq_none.2 (fun p hp => by
    simp only [decide_eq_true_eq]
    intro e
    exact h (List.mem_map.2 ⟨p, hp, e⟩))]
  rfl
theorem mget_some {x : α} {v : β} (hn : (L.map (·.1)).Nodup) (h : (x, v) ∈ L) : mget L x = some v := by
  unfold mget
  induction L with
  | nil => cases h
  | cons p l ih =>
    rw [List.map_cons, List.nodup_cons] at hn
    rcases List.mem_cons.1 h with e | h
    · subst e
      rw [List.find?_cons_of_pos (by simp)]
      rfl
    · rw [List.find?_cons_of_neg (by
        simp only [decide_eq_true_eq]
        intro e
        exact hn.1 (List.mem_map.2 ⟨(x, v), h, e.symm⟩))]
      exact ih hn.2 h
theorem mget_mem {x : α} {v : β} (h : mget L x = some v) : (x, v) ∈ L := by
  unfold mget at h
  obtain ⟨p, hp, rfl⟩ := Option.map_eq_some_iff.1 h
  have h1 := List.find?_some hp
  have h2 := List.mem_of_find?_eq_some hp
  simp only [decide_eq_true_eq] at h1
  subst h1
  exact h2
theorem mget_iff {x : α} : (mget L x).isSome = decide (x ∈ L.map (·.1)) := by
  by_cases h : x ∈ L.map (·.1)
  · rw [decide_eq_true h]
    cases hq : mget L x with
    | some v => rfl
    | none =>
      exfalso
      unfold mget at hq
      obtain ⟨p, hp, e⟩ := List.mem_map.1 h
      have := List.find?_eq_none.1 (Option.map_eq_none_iff.1 hq) p hp
      simp [e] at this
  · rw [decide_eq_false h, mget_none h]; rfl
theorem mset_keys (L : List (α × β)) (x : α) (v : β) : (mset L x v).map (·.1) = if x ∈ L.map (·.1) then L.map (·.1) else L.map (·.1) ++ [x] := by
  unfold mset
  split
  · rw [List.map_map]
    refine List.map_congr_left fun p _ => ?_
    simp only [Function.comp]
    split
    · rename_i h; exact h.symm
    · rfl
  · simp
theorem mem_mset {x y : α} {v u : β} : (y, u) ∈ mset L x v ↔ (y = x ∧ u = v) ∨ (y ≠ x ∧ (y, u) ∈ L) := by
  unfold mset
  split
  · rename_i hx
    rw [List.mem_map]
    constructor
    · rintro ⟨p, hp, e⟩
      split at e
      · injection e with e1 e2; exact .inl ⟨e1.symm, e2.symm⟩
      · rename_i hne
        subst e
        exact .inr ⟨hne, hp⟩
    · rintro (⟨rfl, rfl⟩ | ⟨hne, h⟩)
      · obtain ⟨p, hp, e⟩ := List.mem_map.1 hx
        exact ⟨p, hp, by rw [if_pos e]⟩
      · exact ⟨_, h, by rw [if_neg hne]⟩
  · rename_i hx
    rw [List.mem_append, List.mem_singleton]
    constructor
    · rintro (h | h)
      · refine .inr ⟨fun e => hx (List.mem_map.2 ⟨(y, u), h, e⟩), h⟩
      · injection h with h1 h2; exact .inl ⟨h1, h2⟩
    · rintro (⟨rfl, rfl⟩ | ⟨hne, h⟩)
      · exact .inr rfl
      · exact .inl h
/-- what the map tells of a key -/
theorem MapIs.look (K : WideMaps.KeyLaw P k) (inj : ∀ a b : α, kv a = kv b → a = b) (ht : P.underlying t = some (.map k e)) {z : Value} (hz : (zeroValue e).run P w = .ok z w) (h : MapIs P k kv vv w b L) (x : α) {kl : Lit} (hx : keyOf P k (kv x) = some kl) (c : Bool) :
    (Instr.lookup t (.map (some b)) (kv x) c).run P w = .ok (match mget L x with
      | some v => if c then .tuple #[vv v, .bool true] else vv v
      | none => if c then .tuple #[z, .bool false] else z) w := by
  obtain ⟨es, clock, hb, hL, hks, hn, _⟩ := h
  rcases K.find w hx es.toList (map_keys hL hks) with ⟨h1, h2⟩ | ⟨j, e0, h1, h2, h3⟩
  · have hno : x ∉ L.map (·.1) := fun hm => by
      obtain ⟨p, hp, e⟩ := List.mem_map.1 hm
      obtain ⟨j, hj⟩ := List.mem_iff_getElem?.1 hp
      obtain ⟨e0, he, e1, _⟩ := map_entry' hL hj
      exact h2 e0 (List.mem_of_getElem? he) (by rw [e1, e])
    rw [mget_none hno]
    simp [Instr.lookup, run_underlying ht, MapKept.run_getObj_map hb, K.check w _ hx, h1, hz, Result.andThen]
  · obtain ⟨p, hp, e1, e2⟩ := map_entry hL h2
    have hpx : p.1 = x := inj _ _ (by rw [← e1, h3])
    have hm : mget L x = some p.2 := mget_some hn (by rw [← hpx]; exact List.mem_of_getElem? hp)
    rw [hm]
    simp [Instr.lookup, run_underlying ht, MapKept.run_getObj_map hb, K.check w _ hx, h1, e2, Result.andThen]
theorem mset_same {x : α} {v : β} {j : Nat} {p : α × β} (hn : (L.map (·.1)).Nodup) (hp : L[j]? = some p) (hpx : p.1 = x) : mset L x v = L.set j (x, v) := by
  have hmem : x ∈ L.map (·.1) := List.mem_map.2 ⟨p, List.mem_of_getElem? hp, hpx⟩
  unfold mset
  rw [if_pos hmem]
  refine List.ext_getElem? fun i => ?_
  rw [List.getElem?_map, List.getElem?_set]
  by_cases hij : j = i
  · subst hij
    have hlt := (List.getElem?_eq_some_iff.1 hp).1
    rw [if_pos rfl, if_pos hlt, hp]
    simp [hpx]
  · rw [if_neg hij]
    cases hi : L[i]? with
    | none => rfl
    | some q =>
      have hne : q.1 ≠ x := fun e => hij (by
        have a1 : (L.map (·.1))[j]? = some x := by rw [List.getElem?_map, hp]; simp [hpx]
        have a2 : (L.map (·.1))[i]? = some x := by rw [List.getElem?_map, hi]; simp [e]
        exact (List.getElem?_inj (by have := (List.getElem?_eq_some_iff.1 hp).1; simpa using this) hn).1 (a1.trans a2.symm))
      simp [hne]
/-- a store -/
theorem MapIs.update (K : WideMaps.KeyLaw P k) (inj : ∀ a b : α, kv a = kv b → a = b) (ht : P.underlying t = some (.map k e)) (h : MapIs P k kv vv w b L) (x : α) (v : β) {kl : Lit} (hx : keyOf P k (kv x) = some kl) :
    ∃ w', (Instr.mapUpdate t (.map (some b)) (kv x) (vv v)).run P w = .ok () w' ∧ MapIs P k kv vv w' b (mset L x v) ∧ Kp (fun k => k = b) w w' ∧ w'.heap.size = w.heap.size := by
  obtain ⟨es, clock, hb, hL, hks, hn, hbn, hcl⟩ := h
  have hlt := (Array.getElem?_eq_some_iff.1 hb).1
  have hkeys : ∀ p ∈ mset L x v, ∃ l, keyOf P k (kv p.1) = some l := fun p hp => by
    obtain ⟨y, u⟩ := p
    rcases mem_mset.1 hp with ⟨rfl, _⟩ | ⟨_, hm⟩
    · exact ⟨_, hx⟩
    · exact hks _ hm
  rcases K.find w hx es.toList (map_keys hL hks) with ⟨h1, h2⟩ | ⟨j, e0, h1, h2, h3⟩
  · have hno : x ∉ L.map (·.1) := fun hm => by
      obtain ⟨p, hp, e⟩ := List.mem_map.1 hm
      obtain ⟨j, hj⟩ := List.mem_iff_getElem?.1 hp
      obtain ⟨e0, he, e1, _⟩ := map_entry' hL hj
      exact h2 e0 (List.mem_of_getElem? he) (by rw [e1, e])
    have hms : mset L x v = L ++ [(x, v)] := by unfold mset; rw [if_neg hno]
    refine ⟨setBlock w b (.map (es.push ⟨kv x, vv v, clock⟩) (clock + 1)), ?_, ⟨_, _, setBlock_at w _ hlt, ?_, hkeys, ?_, ?_, ?_⟩, setBlock_kp _ _ _, setBlock_size _ _ _⟩
    · simp [Instr.mapUpdate, run_underlying ht, MapKept.run_getObj_map hb, K.check w false hx, h1, MapKept.run_setObj_map _ hb, Result.andThen, setBlock]
    · rw [hms, Array.toList_push, List.map_append, List.map_append, hL]; rfl
    · rw [hms, List.map_append]
      exact List.nodup_append.2 ⟨hn, by simp, fun a ha c hc => by
        simp only [List.map_cons, List.map_nil, List.mem_singleton] at hc
        subst hc
        intro e
        subst e
        exact hno ha⟩
    · rw [Array.toList_push, List.map_append, List.pairwise_append]
      refine ⟨hbn, by simp, fun a ha c hc => ?_⟩
      obtain ⟨e1, he1, rfl⟩ := List.mem_map.1 ha
      simp only [List.map_cons, List.map_nil, List.mem_singleton] at hc
      subst hc
      exact hcl e1 he1
    · intro e1 he1
      rw [Array.toList_push, List.mem_append, List.mem_singleton] at he1
      rcases he1 with he1 | rfl
      · exact Nat.lt_succ_of_lt (hcl e1 he1)
      · exact Nat.lt_succ_self _
  · obtain ⟨p, hp, e1, e2⟩ := map_entry hL h2
    have hpx : p.1 = x := inj _ _ (by rw [← e1, h3])
    have hms := mset_same (v := v) hn hp hpx
    have hj : es[j]? = some e0 := by simpa using h2
    have hto : (es.modify j (fun e' => { e' with key := kv x, val := vv v })).toList = es.toList.set j ⟨kv x, vv v, e0.born⟩ := by
      rw [Array.toList_modify]
      refine List.ext_getElem? fun i => ?_
      rw [List.getElem?_modify, List.getElem?_set]
      by_cases hij : j = i
      · subst hij
        rw [if_pos rfl, if_pos (List.getElem?_eq_some_iff.1 h2).1, h2]
        simp
      · rw [if_neg hij]
        simp [hij]
    refine ⟨setBlock w b (.map (es.modify j (fun e' => { e' with key := kv x, val := vv v })) clock), ?_, ⟨_, _, setBlock_at w _ hlt, ?_, hkeys, ?_, ?_, ?_⟩, setBlock_kp _ _ _, setBlock_size _ _ _⟩
    · simp [Instr.mapUpdate, run_underlying ht, MapKept.run_getObj_map hb, K.check w false hx, h1, hj, h3, K.stays w hx, MapKept.run_setObj_map _ hb, Result.andThen, setBlock]
    · rw [hto, hms, List.map_set, List.map_set, hL]
    · rw [hms, List.map_set, set_same (by rw [List.getElem?_map, hp]; simp [hpx])]
      exact hn
    · rw [hto, List.map_set, set_same (by rw [List.getElem?_map, h2]; rfl)]
      exact hbn
    · intro e1 he1
      rw [hto] at he1
      rcases List.mem_or_eq_of_mem_set he1 with he1 | rfl
      · exact hcl e1 he1
      · exact hcl e0 (List.mem_of_getElem? h2)
end
end
section
open Go.RowKit
set_option maxRecDepth 100000
set_option maxHeartbeats 4000000
set_option linter.unusedVariables false
/-- what the library's table of trailing zeros holds for eight -/
def Gz (w : World) : Prop := w.cell? ⟨5, 7, none⟩ = some (.int .u8 3)
theorem Gz.below {w w' : World} (h : Gz w) (hb : Below w.heap.size w w') : Gz w' := (hb.cell (World.block_lt_of_cell? w _ h)).trans h
theorem tz_any (w : World) (hz : Gz w) : Calls Tryz.prog 180 #[.int .u64 8] w fun e w' => e = .returned (.int .i64 3) ∧ w = w' := by
  unfold Gz at hz
  have e1 : bits BinOp.and IntKind.u64 8 (IntKind.u64.wrap (-8)) = 8 := by decide +kernel
  have e2 : IntKind.u64.wrap 2286961704410830920 = 2286961704410830920 := by decide +kernel
  go_enter Tryz.func180, Tryz.ntmps180
  go_wp2
  go_ret
  exact ⟨rfl, rfl⟩
theorem tzz_any (w : World) (hz : Gz w) : Calls Tryz.prog 171 #[.int .u64 8] w fun e w' => e = .returned (.int .i64 3) ∧ w = w' := by
  have k := tz_any w hz
  clear hz
  go_enter Tryz.func171, Tryz.ntmps171
  go_wp2_with (go_at_call 180; (with_reducible refine k.mono ?_); rintro e w1 ⟨rfl, rfl⟩)
  go_ret
  exact ⟨rfl, rfl⟩
theorem pow2_any (w : World) : Calls Tryz.prog 170 #[.int .i64 8] w fun e w' => e = .returned (.bool true) ∧ w = w' := by
  have e1 : bits BinOp.and IntKind.i64 8 7 = 0 := by decide +kernel
  go_enter Tryz.func170, Tryz.ntmps170
  go_wp2
  go_ret
  exact ⟨rfl, rfl⟩
theorem sl_drop {w : World} {b off : Nat} {cs : Array Value} {t : TypeId} {fr : Nat × Nat} (h : w.heap[b]? = some (.cells cs t fr)) {l : List Value} (hd : cs.toList.drop off = l) : Sl w (some ⟨b, off, none⟩) l :=
  Sl.of_block h (fun j v hj => by
    rw [← hd, List.getElem?_drop] at hj
    simpa using hj)
theorem fb_16384 (w : World) (hz : Gz w) : Calls Tryz.prog 145 #[.slice none 0 0, .int .u64 16384, .int .i64 8, .bool false, .bool false] w fun e w' => e = .returned (.tuple #[.slice none 0 0, .string (bstr (modeD 16384))]) ∧ Below w.heap.size w w' := by
  obtain ⟨W1, hW1⟩ : ∃ W1, W1 = w.alloc (.cells Tryz.zeroCells219 219) := ⟨_, rfl⟩
  have hb1 : Below w.heap.size w W1 := by rw [hW1]; exact (Below.refl _ _).alloc (Nat.le_refl _) _
  have hr : W1.heap[w.heap.size]? = some (.cells Tryz.zeroCells219 219 (0, 0)) := by rw [hW1]; exact heap_alloc_new _ _
  have kz : ∀ w', Below w.heap.size w w' → Calls Tryz.prog 171 #[.int .u64 8] w' fun e w'' => e = .returned (.int .i64 3) ∧ w' = w'' := fun w' h => tzz_any w' (hz.below h)
  have kp := fun w' => pow2_any w'
  have hsz : Tryz.zeroCells219.size = 65 := by kernel_rfl
  have HB1 := Lib.hid hb1; have HW1 := Lib.hid hW1; have HSZ := Lib.hid hsz
  have hk : Kp (fun k => k = w.heap.size) W1 W1 := Kp.refl _ _
  have e0 : bits BinOp.and IntKind.u64 16384 7 = 0 := by decide +kernel
  have e1 : bits BinOp.and IntKind.u64 2048 7 = 0 := by decide +kernel
  have e2 : bits BinOp.and IntKind.u64 256 7 = 0 := by decide +kernel
  have e3 : bits BinOp.and IntKind.u64 32 7 = 0 := by decide +kernel
  clear hb1 hW1 hz hsz
  go_enter Tryz.func145, Tryz.ntmps145
  go_upto_region 4 with fail
  rw [← HW1.out]
  go_upto_block 0 with (first
    | (go_at_call 170; (with_reducible refine (kp _).mono ?_); rintro e w1 ⟨rfl, rfl⟩)
    | (go_at_call 171; (with_reducible refine (kz _ HB1.out).mono ?_); rintro e w1 ⟨rfl, rfl⟩))
  go_step
  refine wp_loop_rounds 5 ?_
  iterate 4
    rw [rounds_succ]
    go_wp2_with (refine wpList_storeC rfl 5 (fun w => by kernel_rfl) (.tmp 54) (.tmp 53) rfl w.heap.size _ _ rfl rfl 219 _ hr (by simp only [Array.size_setIfInBounds, HSZ.out]; decide) rfl ?_; clear hr; intro wn hr hkn hsn; replace hk := hk.trans hkn; clear hkn hsn)
  rw [rounds_succ]
  go_wp2_with (refine wpList_storeC rfl 5 (fun w => by kernel_rfl) (.tmp 63) (.tmp 62) rfl w.heap.size _ _ rfl rfl 219 _ hr (by simp only [Array.size_setIfInBounds, HSZ.out]; decide) rfl ?_; clear hr; intro wn hr hkn hsn; replace hk := hk.trans hkn; clear hkn hsn
               have hcv : (convert 22 9 (.slice (some ⟨w.heap.size, 60, none⟩) 5 5)).run Tryz.prog wn = .ok (.string (bstr (modeD 16384))) wn := conv34 (sl_drop hr (by kernel_rfl)) rfl)
  go_ret2
  exact ⟨rfl, HB1.out.trans (hk.toBelow HB1.out.size (fun k h e => by omega))⟩
theorem fb_33188 (w : World) (hz : Gz w) : Calls Tryz.prog 145 #[.slice none 0 0, .int .u64 33188, .int .i64 8, .bool false, .bool false] w fun e w' => e = .returned (.tuple #[.slice none 0 0, .string (bstr (modeD 33188))]) ∧ Below w.heap.size w w' := by
  obtain ⟨W1, hW1⟩ : ∃ W1, W1 = w.alloc (.cells Tryz.zeroCells219 219) := ⟨_, rfl⟩
  have hb1 : Below w.heap.size w W1 := by rw [hW1]; exact (Below.refl _ _).alloc (Nat.le_refl _) _
  have hr : W1.heap[w.heap.size]? = some (.cells Tryz.zeroCells219 219 (0, 0)) := by rw [hW1]; exact heap_alloc_new _ _
  have kz : ∀ w', Below w.heap.size w w' → Calls Tryz.prog 171 #[.int .u64 8] w' fun e w'' => e = .returned (.int .i64 3) ∧ w' = w'' := fun w' h => tzz_any w' (hz.below h)
  have kp := fun w' => pow2_any w'
  have hsz : Tryz.zeroCells219.size = 65 := by kernel_rfl
  have HB1 := Lib.hid hb1; have HW1 := Lib.hid hW1; have HSZ := Lib.hid hsz
  have hk : Kp (fun k => k = w.heap.size) W1 W1 := Kp.refl _ _
  have e0 : bits BinOp.and IntKind.u64 33188 7 = 4 := by decide +kernel
  have e1 : bits BinOp.and IntKind.u64 4148 7 = 4 := by decide +kernel
  have e2 : bits BinOp.and IntKind.u64 518 7 = 6 := by decide +kernel
  have e3 : bits BinOp.and IntKind.u64 64 7 = 0 := by decide +kernel
  have e4 : bits BinOp.and IntKind.u64 8 7 = 0 := by decide +kernel
  clear hb1 hW1 hz hsz
  go_enter Tryz.func145, Tryz.ntmps145
  go_upto_region 4 with fail
  rw [← HW1.out]
  go_upto_block 0 with (first
    | (go_at_call 170; (with_reducible refine (kp _).mono ?_); rintro e w1 ⟨rfl, rfl⟩)
    | (go_at_call 171; (with_reducible refine (kz _ HB1.out).mono ?_); rintro e w1 ⟨rfl, rfl⟩))
  go_step
  refine wp_loop_rounds 6 ?_
  iterate 5
    rw [rounds_succ]
    go_wp2_with (refine wpList_storeC rfl 5 (fun w => by kernel_rfl) (.tmp 54) (.tmp 53) rfl w.heap.size _ _ rfl rfl 219 _ hr (by simp only [Array.size_setIfInBounds, HSZ.out]; decide) rfl ?_; clear hr; intro wn hr hkn hsn; replace hk := hk.trans hkn; clear hkn hsn)
  rw [rounds_succ]
  go_wp2_with (refine wpList_storeC rfl 5 (fun w => by kernel_rfl) (.tmp 63) (.tmp 62) rfl w.heap.size _ _ rfl rfl 219 _ hr (by simp only [Array.size_setIfInBounds, HSZ.out]; decide) rfl ?_; clear hr; intro wn hr hkn hsn; replace hk := hk.trans hkn; clear hkn hsn
               have hcv : (convert 22 9 (.slice (some ⟨w.heap.size, 59, none⟩) 6 6)).run Tryz.prog wn = .ok (.string (bstr (modeD 33188))) wn := conv34 (sl_drop hr (by kernel_rfl)) rfl)
  go_ret2
  exact ⟨rfl, HB1.out.trans (hk.toBelow HB1.out.size (fun k h e => by omega))⟩
theorem fb_33261 (w : World) (hz : Gz w) : Calls Tryz.prog 145 #[.slice none 0 0, .int .u64 33261, .int .i64 8, .bool false, .bool false] w fun e w' => e = .returned (.tuple #[.slice none 0 0, .string (bstr (modeD 33261))]) ∧ Below w.heap.size w w' := by
  obtain ⟨W1, hW1⟩ : ∃ W1, W1 = w.alloc (.cells Tryz.zeroCells219 219) := ⟨_, rfl⟩
  have hb1 : Below w.heap.size w W1 := by rw [hW1]; exact (Below.refl _ _).alloc (Nat.le_refl _) _
  have hr : W1.heap[w.heap.size]? = some (.cells Tryz.zeroCells219 219 (0, 0)) := by rw [hW1]; exact heap_alloc_new _ _
  have kz : ∀ w', Below w.heap.size w w' → Calls Tryz.prog 171 #[.int .u64 8] w' fun e w'' => e = .returned (.int .i64 3) ∧ w' = w'' := fun w' h => tzz_any w' (hz.below h)
  have kp := fun w' => pow2_any w'
  have hsz : Tryz.zeroCells219.size = 65 := by kernel_rfl
  have HB1 := Lib.hid hb1; have HW1 := Lib.hid hW1; have HSZ := Lib.hid hsz
  have hk : Kp (fun k => k = w.heap.size) W1 W1 := Kp.refl _ _
  have e0 : bits BinOp.and IntKind.u64 33261 7 = 5 := by decide +kernel
  have e1 : bits BinOp.and IntKind.u64 4157 7 = 5 := by decide +kernel
  have e2 : bits BinOp.and IntKind.u64 519 7 = 7 := by decide +kernel
  have e3 : bits BinOp.and IntKind.u64 64 7 = 0 := by decide +kernel
  have e4 : bits BinOp.and IntKind.u64 8 7 = 0 := by decide +kernel
  clear hb1 hW1 hz hsz
  go_enter Tryz.func145, Tryz.ntmps145
  go_upto_region 4 with fail
  rw [← HW1.out]
  go_upto_block 0 with (first
    | (go_at_call 170; (with_reducible refine (kp _).mono ?_); rintro e w1 ⟨rfl, rfl⟩)
    | (go_at_call 171; (with_reducible refine (kz _ HB1.out).mono ?_); rintro e w1 ⟨rfl, rfl⟩))
  go_step
  refine wp_loop_rounds 6 ?_
  iterate 5
    rw [rounds_succ]
    go_wp2_with (refine wpList_storeC rfl 5 (fun w => by kernel_rfl) (.tmp 54) (.tmp 53) rfl w.heap.size _ _ rfl rfl 219 _ hr (by simp only [Array.size_setIfInBounds, HSZ.out]; decide) rfl ?_; clear hr; intro wn hr hkn hsn; replace hk := hk.trans hkn; clear hkn hsn)
  rw [rounds_succ]
  go_wp2_with (refine wpList_storeC rfl 5 (fun w => by kernel_rfl) (.tmp 63) (.tmp 62) rfl w.heap.size _ _ rfl rfl 219 _ hr (by simp only [Array.size_setIfInBounds, HSZ.out]; decide) rfl ?_; clear hr; intro wn hr hkn hsn; replace hk := hk.trans hkn; clear hkn hsn
               have hcv : (convert 22 9 (.slice (some ⟨w.heap.size, 59, none⟩) 6 6)).run Tryz.prog wn = .ok (.string (bstr (modeD 33261))) wn := conv34 (sl_drop hr (by kernel_rfl)) rfl)
  go_ret2
  exact ⟨rfl, HB1.out.trans (hk.toBelow HB1.out.size (fun k h e => by omega))⟩
theorem fb_40960 (w : World) (hz : Gz w) : Calls Tryz.prog 145 #[.slice none 0 0, .int .u64 40960, .int .i64 8, .bool false, .bool false] w fun e w' => e = .returned (.tuple #[.slice none 0 0, .string (bstr (modeD 40960))]) ∧ Below w.heap.size w w' := by
  obtain ⟨W1, hW1⟩ : ∃ W1, W1 = w.alloc (.cells Tryz.zeroCells219 219) := ⟨_, rfl⟩
  have hb1 : Below w.heap.size w W1 := by rw [hW1]; exact (Below.refl _ _).alloc (Nat.le_refl _) _
  have hr : W1.heap[w.heap.size]? = some (.cells Tryz.zeroCells219 219 (0, 0)) := by rw [hW1]; exact heap_alloc_new _ _
  have kz : ∀ w', Below w.heap.size w w' → Calls Tryz.prog 171 #[.int .u64 8] w' fun e w'' => e = .returned (.int .i64 3) ∧ w' = w'' := fun w' h => tzz_any w' (hz.below h)
  have kp := fun w' => pow2_any w'
  have hsz : Tryz.zeroCells219.size = 65 := by kernel_rfl
  have HB1 := Lib.hid hb1; have HW1 := Lib.hid hW1; have HSZ := Lib.hid hsz
  have hk : Kp (fun k => k = w.heap.size) W1 W1 := Kp.refl _ _
  have e0 : bits BinOp.and IntKind.u64 40960 7 = 0 := by decide +kernel
  have e1 : bits BinOp.and IntKind.u64 5120 7 = 0 := by decide +kernel
  have e2 : bits BinOp.and IntKind.u64 640 7 = 0 := by decide +kernel
  have e3 : bits BinOp.and IntKind.u64 80 7 = 0 := by decide +kernel
  have e4 : bits BinOp.and IntKind.u64 10 7 = 2 := by decide +kernel
  clear hb1 hW1 hz hsz
  go_enter Tryz.func145, Tryz.ntmps145
  go_upto_region 4 with fail
  rw [← HW1.out]
  go_upto_block 0 with (first
    | (go_at_call 170; (with_reducible refine (kp _).mono ?_); rintro e w1 ⟨rfl, rfl⟩)
    | (go_at_call 171; (with_reducible refine (kz _ HB1.out).mono ?_); rintro e w1 ⟨rfl, rfl⟩))
  go_step
  refine wp_loop_rounds 6 ?_
  iterate 5
    rw [rounds_succ]
    go_wp2_with (refine wpList_storeC rfl 5 (fun w => by kernel_rfl) (.tmp 54) (.tmp 53) rfl w.heap.size _ _ rfl rfl 219 _ hr (by simp only [Array.size_setIfInBounds, HSZ.out]; decide) rfl ?_; clear hr; intro wn hr hkn hsn; replace hk := hk.trans hkn; clear hkn hsn)
  rw [rounds_succ]
  go_wp2_with (refine wpList_storeC rfl 5 (fun w => by kernel_rfl) (.tmp 63) (.tmp 62) rfl w.heap.size _ _ rfl rfl 219 _ hr (by simp only [Array.size_setIfInBounds, HSZ.out]; decide) rfl ?_; clear hr; intro wn hr hkn hsn; replace hk := hk.trans hkn; clear hkn hsn
               have hcv : (convert 22 9 (.slice (some ⟨w.heap.size, 59, none⟩) 6 6)).run Tryz.prog wn = .ok (.string (bstr (modeD 40960))) wn := conv34 (sl_drop hr (by kernel_rfl)) rfl)
  go_ret2
  exact ⟨rfl, HB1.out.trans (hk.toBelow HB1.out.size (fun k h e => by omega))⟩
theorem fb_57344 (w : World) (hz : Gz w) : Calls Tryz.prog 145 #[.slice none 0 0, .int .u64 57344, .int .i64 8, .bool false, .bool false] w fun e w' => e = .returned (.tuple #[.slice none 0 0, .string (bstr (modeD 57344))]) ∧ Below w.heap.size w w' := by
  obtain ⟨W1, hW1⟩ : ∃ W1, W1 = w.alloc (.cells Tryz.zeroCells219 219) := ⟨_, rfl⟩
  have hb1 : Below w.heap.size w W1 := by rw [hW1]; exact (Below.refl _ _).alloc (Nat.le_refl _) _
  have hr : W1.heap[w.heap.size]? = some (.cells Tryz.zeroCells219 219 (0, 0)) := by rw [hW1]; exact heap_alloc_new _ _
  have kz : ∀ w', Below w.heap.size w w' → Calls Tryz.prog 171 #[.int .u64 8] w' fun e w'' => e = .returned (.int .i64 3) ∧ w' = w'' := fun w' h => tzz_any w' (hz.below h)
  have kp := fun w' => pow2_any w'
  have hsz : Tryz.zeroCells219.size = 65 := by kernel_rfl
  have HB1 := Lib.hid hb1; have HW1 := Lib.hid hW1; have HSZ := Lib.hid hsz
  have hk : Kp (fun k => k = w.heap.size) W1 W1 := Kp.refl _ _
  have e0 : bits BinOp.and IntKind.u64 57344 7 = 0 := by decide +kernel
  have e1 : bits BinOp.and IntKind.u64 7168 7 = 0 := by decide +kernel
  have e2 : bits BinOp.and IntKind.u64 896 7 = 0 := by decide +kernel
  have e3 : bits BinOp.and IntKind.u64 112 7 = 0 := by decide +kernel
  have e4 : bits BinOp.and IntKind.u64 14 7 = 6 := by decide +kernel
  clear hb1 hW1 hz hsz
  go_enter Tryz.func145, Tryz.ntmps145
  go_upto_region 4 with fail
  rw [← HW1.out]
  go_upto_block 0 with (first
    | (go_at_call 170; (with_reducible refine (kp _).mono ?_); rintro e w1 ⟨rfl, rfl⟩)
    | (go_at_call 171; (with_reducible refine (kz _ HB1.out).mono ?_); rintro e w1 ⟨rfl, rfl⟩))
  go_step
  refine wp_loop_rounds 6 ?_
  iterate 5
    rw [rounds_succ]
    go_wp2_with (refine wpList_storeC rfl 5 (fun w => by kernel_rfl) (.tmp 54) (.tmp 53) rfl w.heap.size _ _ rfl rfl 219 _ hr (by simp only [Array.size_setIfInBounds, HSZ.out]; decide) rfl ?_; clear hr; intro wn hr hkn hsn; replace hk := hk.trans hkn; clear hkn hsn)
  rw [rounds_succ]
  go_wp2_with (refine wpList_storeC rfl 5 (fun w => by kernel_rfl) (.tmp 63) (.tmp 62) rfl w.heap.size _ _ rfl rfl 219 _ hr (by simp only [Array.size_setIfInBounds, HSZ.out]; decide) rfl ?_; clear hr; intro wn hr hkn hsn; replace hk := hk.trans hkn; clear hkn hsn
               have hcv : (convert 22 9 (.slice (some ⟨w.heap.size, 59, none⟩) 6 6)).run Tryz.prog wn = .ok (.string (bstr (modeD 57344))) wn := conv34 (sl_drop hr (by kernel_rfl)) rfl)
  go_ret2
  exact ⟨rfl, HB1.out.trans (hk.toBelow HB1.out.size (fun k h e => by omega))⟩
theorem fi_16384 (w : World) (hz : Gz w) : Calls Tryz.prog 120 #[.int .i64 16384, .int .i64 8] w fun e w' => e = .returned (.string (bstr (modeD 16384))) ∧ Below w.heap.size w w' := by
  have k := fb_16384 w hz
  clear hz
  go_enter Tryz.func120, Tryz.ntmps120
  go_wp2_with (go_at_call 145; (with_reducible refine k.mono ?_); rintro e w1 ⟨rfl, hb1⟩)
  go_ret
  exact ⟨rfl, hb1⟩
theorem fo_16384 (w : World) (hz : Gz w) : Calls Tryz.prog 118 #[.int .i64 16384, .int .i64 8] w fun e w' => e = .returned (.string (bstr (modeD 16384))) ∧ Below w.heap.size w w' := by
  have k := fi_16384 w hz
  clear hz
  go_enter Tryz.func118, Tryz.ntmps118
  go_wp2_with (go_at_call 120; (with_reducible refine k.mono ?_); rintro e w1 ⟨rfl, hb1⟩)
  go_ret
  exact ⟨rfl, hb1⟩
theorem fi_33188 (w : World) (hz : Gz w) : Calls Tryz.prog 120 #[.int .i64 33188, .int .i64 8] w fun e w' => e = .returned (.string (bstr (modeD 33188))) ∧ Below w.heap.size w w' := by
  have k := fb_33188 w hz
  clear hz
  go_enter Tryz.func120, Tryz.ntmps120
  go_wp2_with (go_at_call 145; (with_reducible refine k.mono ?_); rintro e w1 ⟨rfl, hb1⟩)
  go_ret
  exact ⟨rfl, hb1⟩
theorem fo_33188 (w : World) (hz : Gz w) : Calls Tryz.prog 118 #[.int .i64 33188, .int .i64 8] w fun e w' => e = .returned (.string (bstr (modeD 33188))) ∧ Below w.heap.size w w' := by
  have k := fi_33188 w hz
  clear hz
  go_enter Tryz.func118, Tryz.ntmps118
  go_wp2_with (go_at_call 120; (with_reducible refine k.mono ?_); rintro e w1 ⟨rfl, hb1⟩)
  go_ret
  exact ⟨rfl, hb1⟩
theorem fi_33261 (w : World) (hz : Gz w) : Calls Tryz.prog 120 #[.int .i64 33261, .int .i64 8] w fun e w' => e = .returned (.string (bstr (modeD 33261))) ∧ Below w.heap.size w w' := by
  have k := fb_33261 w hz
  clear hz
  go_enter Tryz.func120, Tryz.ntmps120
  go_wp2_with (go_at_call 145; (with_reducible refine k.mono ?_); rintro e w1 ⟨rfl, hb1⟩)
  go_ret
  exact ⟨rfl, hb1⟩
theorem fo_33261 (w : World) (hz : Gz w) : Calls Tryz.prog 118 #[.int .i64 33261, .int .i64 8] w fun e w' => e = .returned (.string (bstr (modeD 33261))) ∧ Below w.heap.size w w' := by
  have k := fi_33261 w hz
  clear hz
  go_enter Tryz.func118, Tryz.ntmps118
  go_wp2_with (go_at_call 120; (with_reducible refine k.mono ?_); rintro e w1 ⟨rfl, hb1⟩)
  go_ret
  exact ⟨rfl, hb1⟩
theorem fi_40960 (w : World) (hz : Gz w) : Calls Tryz.prog 120 #[.int .i64 40960, .int .i64 8] w fun e w' => e = .returned (.string (bstr (modeD 40960))) ∧ Below w.heap.size w w' := by
  have k := fb_40960 w hz
  clear hz
  go_enter Tryz.func120, Tryz.ntmps120
  go_wp2_with (go_at_call 145; (with_reducible refine k.mono ?_); rintro e w1 ⟨rfl, hb1⟩)
  go_ret
  exact ⟨rfl, hb1⟩
theorem fo_40960 (w : World) (hz : Gz w) : Calls Tryz.prog 118 #[.int .i64 40960, .int .i64 8] w fun e w' => e = .returned (.string (bstr (modeD 40960))) ∧ Below w.heap.size w w' := by
  have k := fi_40960 w hz
  clear hz
  go_enter Tryz.func118, Tryz.ntmps118
  go_wp2_with (go_at_call 120; (with_reducible refine k.mono ?_); rintro e w1 ⟨rfl, hb1⟩)
  go_ret
  exact ⟨rfl, hb1⟩
theorem fi_57344 (w : World) (hz : Gz w) : Calls Tryz.prog 120 #[.int .i64 57344, .int .i64 8] w fun e w' => e = .returned (.string (bstr (modeD 57344))) ∧ Below w.heap.size w w' := by
  have k := fb_57344 w hz
  clear hz
  go_enter Tryz.func120, Tryz.ntmps120
  go_wp2_with (go_at_call 145; (with_reducible refine k.mono ?_); rintro e w1 ⟨rfl, hb1⟩)
  go_ret
  exact ⟨rfl, hb1⟩
theorem fo_57344 (w : World) (hz : Gz w) : Calls Tryz.prog 118 #[.int .i64 57344, .int .i64 8] w fun e w' => e = .returned (.string (bstr (modeD 57344))) ∧ Below w.heap.size w w' := by
  have k := fi_57344 w hz
  clear hz
  go_enter Tryz.func118, Tryz.ntmps118
  go_wp2_with (go_at_call 120; (with_reducible refine k.mono ?_); rintro e w1 ⟨rfl, hb1⟩)
  go_ret
  exact ⟨rfl, hb1⟩
theorem mode_any (m : Int) (w : World) (hz : Gz w) : Calls Tryz.prog 91 #[.int .i64 m] w fun e w' => e = .returned (.string (bstr (modeD m))) ∧ Below w.heap.size w w' := by
  by_cases h0 : m = 16384
  · subst h0
    have k := fo_16384 w hz
    clear hz
    go_enter Tryz.func91, Tryz.ntmps91
    go_wp2_with (go_at_call 118; (with_reducible refine k.mono ?_); rintro e w1 ⟨rfl, hb1⟩)
    go_ret
    exact ⟨rfl, hb1⟩
  by_cases h1 : m = 33188
  · subst h1
    have k := fo_33188 w hz
    clear hz
    go_enter Tryz.func91, Tryz.ntmps91
    go_wp2_with (go_at_call 118; (with_reducible refine k.mono ?_); rintro e w1 ⟨rfl, hb1⟩)
    go_ret
    exact ⟨rfl, hb1⟩
  by_cases h2 : m = 33261
  · subst h2
    have k := fo_33261 w hz
    clear hz
    go_enter Tryz.func91, Tryz.ntmps91
    go_wp2_with (go_at_call 118; (with_reducible refine k.mono ?_); rintro e w1 ⟨rfl, hb1⟩)
    go_ret
    exact ⟨rfl, hb1⟩
  by_cases h3 : m = 40960
  · subst h3
    have k := fo_40960 w hz
    clear hz
    go_enter Tryz.func91, Tryz.ntmps91
    go_wp2_with (go_at_call 118; (with_reducible refine k.mono ?_); rintro e w1 ⟨rfl, hb1⟩)
    go_ret
    exact ⟨rfl, hb1⟩
  by_cases h4 : m = 57344
  · subst h4
    have k := fo_57344 w hz
    clear hz
    go_enter Tryz.func91, Tryz.ntmps91
    go_wp2_with (go_at_call 118; (with_reducible refine k.mono ?_); rintro e w1 ⟨rfl, hb1⟩)
    go_ret
    exact ⟨rfl, hb1⟩
  have e : modeD m = [] := by unfold modeD; rw [if_neg h0, if_neg h1, if_neg h2, if_neg h3, if_neg h4]
  rw [e]
  have t1 : (m == 16384) = false := by simpa using h0
  have t2 : (m == 33188) = false := by simpa using h1
  have t3 : (m == 33261) = false := by simpa using h2
  have t4 : (m == 40960) = false := by simpa using h3
  have t5 : (m == 57344) = false := by simpa using h4
  clear e h0 h1 h2 h3 h4 hz
  go_enter Tryz.func91, Tryz.ntmps91
  go_wp2
  go_ret
  exact ⟨rfl, Below.refl _ _⟩
end
section
open Go.RowKit
set_option maxRecDepth 100000
set_option maxHeartbeats 2000000
set_option linter.unusedVariables false
theorem namedI_eq (s : List UInt8) (h1 : s ≠ []) (h2 : s ≠ [46]) (h3 : s ≠ [46, 46]) (h4 : s ≠ [46, 103, 105, 116]) : namedI s = (decide (s.length ≤ 100) && !(s.contains 47) && !(s.contains 0)) := by
  unfold namedI
  have e1 : (s == []) = false := by simpa using h1
  have e2 : (s == [46]) = false := by simpa using h2
  have e3 : (s == [46, 46]) = false := by simpa using h3
  have e4 : (s == [46, 103, 105, 116]) = false := by simpa using h4
  rw [e1, e2, e3, e4]
  simp
theorem named_any (s : List UInt8) (w : World) (hs : s.length ≤ 1073741824) : Calls Tryz.prog 78 #[.string (bstr s)] w fun e w' => e = .returned (.bool (namedI s)) ∧ w = w' := by
  have ssz : (bstr s).size = s.length := bstr_size s
  by_cases h1 : s = []
  · subst h1
    go_enter Tryz.func78, Tryz.ntmps78
    go_wp2
    go_ret
    exact ⟨rfl, rfl⟩
  by_cases h2 : s = [46]
  · subst h2
    go_enter Tryz.func78, Tryz.ntmps78
    go_wp2
    go_ret
    exact ⟨rfl, rfl⟩
  by_cases h3 : s = [46, 46]
  · subst h3
    go_enter Tryz.func78, Tryz.ntmps78
    go_wp2
    go_ret
    exact ⟨rfl, rfl⟩
  by_cases h4 : s = [46, 103, 105, 116]
  · subst h4
    go_enter Tryz.func78, Tryz.ntmps78
    go_wp2
    go_ret
    exact ⟨rfl, rfl⟩
  have HN := Lib.hid (namedI_eq s h1 h2 h3 h4)
  have e0 : s.isEmpty = false := by simpa using h1
  have e2 : (s == [46]) = false := by simpa using h2
  have e3 : (s == [46, 46]) = false := by simpa using h3
  have e4 : (s == [46, 103, 105, 116]) = false := by simpa using h4
  have k0 : ∀ w, Calls Tryz.prog 111 #[.string (bstr s), .int .u8 47] w fun e w' => e = .returned (.int .i64 (Lib.indexByte s 47)) ∧ w = w' := fun w => idxS_any s 47 w
  have k1 : ∀ w, Calls Tryz.prog 111 #[.string (bstr s), .int .u8 0] w fun e w' => e = .returned (.int .i64 (Lib.indexByte s 0)) ∧ w = w' := fun w => idxS_any s 0 w
  have i0 : decide (Lib.indexByte s 47 < 0) = !(s.contains 47) := ib_lt
  have i1 : decide (Lib.indexByte s 0 < 0) = !(s.contains 0) := ib_lt
  obtain ⟨x, hx⟩ : ∃ x, x = Lib.indexByte s 47 := ⟨_, rfl⟩
  obtain ⟨y, hy⟩ : ∃ y, y = Lib.indexByte s 0 := ⟨_, rfl⟩
  obtain ⟨p, hp⟩ : ∃ p, p = !(s.contains 47) := ⟨_, rfl⟩
  obtain ⟨q, hq⟩ : ∃ q, q = !(s.contains 0) := ⟨_, rfl⟩
  rw [← hx] at k0 i0
  rw [← hy] at k1 i1
  rw [← hp] at i0
  rw [← hq] at i1
  have HT : Hid (namedI s = (decide (s.length ≤ 100) && p && q)) := Lib.hid (by rw [HN.out, ← hp, ← hq])
  clear hx hy hp hq h1 h2 h3 h4 HN
  by_cases h5 : s.length ≤ 100
  · have d1 : decide (s.length ≤ 100) = true := decide_eq_true h5
    have HD := Lib.hid d1
    have d2 : decide ((s.length : Int) ≤ 100) = true := decide_eq_true (by omega)
    clear d1
    cases p with
    | false =>
      go_enter Tryz.func78, Tryz.ntmps78
      go_wp2_with (go_at_call 111; (with_reducible refine (k0 _).mono ?_); rintro e w1 ⟨rfl, rfl⟩)
      go_ret
      exact ⟨by rw [HT.out, HD.out]; rfl, rfl⟩
    | true =>
      go_enter Tryz.func78, Tryz.ntmps78
      go_wp2_with (first
        | (go_at_call 111; (with_reducible refine (k0 _).mono ?_); rintro e w1 ⟨rfl, rfl⟩)
        | (go_at_call 111; (with_reducible refine (k1 _).mono ?_); rintro e w1 ⟨rfl, rfl⟩))
      go_ret
      exact ⟨by rw [HT.out, HD.out]; rfl, rfl⟩
  · have d1 : decide (s.length ≤ 100) = false := decide_eq_false h5
    have HD := Lib.hid d1
    have d2 : decide ((s.length : Int) ≤ 100) = false := decide_eq_false (by omega)
    clear d1
    go_enter Tryz.func78, Tryz.ntmps78
    go_wp2
    go_ret
    exact ⟨by rw [HT.out, HD.out]; rfl, rfl⟩
theorem namedI_bad {s : List UInt8} {i : Nat} (hi : i < s.length) (h : s[i] = 47 ∨ s[i] = 0) : namedI s = false := by
  cases hn : namedI s with
  | false => rfl
  | true =>
    exfalso
    unfold namedI at hn
    simp only [Bool.and_eq_true, Bool.not_eq_true', decide_eq_true_eq] at hn
    have hm : s[i] ∈ s := List.getElem_mem hi
    rcases h with h | h
    · rw [h] at hm
      have := hn.1.2
      simp [hm] at this
    · rw [h] at hm
      have := hn.2
      simp [hm] at this
theorem namedI_good {s : List UInt8} (h1 : s ≠ []) (h2 : s ≠ [46]) (h3 : s ≠ [46, 46]) (h4 : s ≠ [46, 103, 105, 116]) (h5 : s.length ≤ 100) (h : ∀ j (hj : j < s.length), s[j] ≠ 47 ∧ s[j] ≠ 0) : namedI s = true := by
  rw [namedI_eq s h1 h2 h3 h4, decide_eq_true h5]
  have n1 : (47 : UInt8) ∉ s := fun hm => by
    obtain ⟨j, hj, e⟩ := List.mem_iff_getElem.1 hm
    exact (h j hj).1 e
  have n2 : (0 : UInt8) ∉ s := fun hm => by
    obtain ⟨j, hj, e⟩ := List.mem_iff_getElem.1 hm
    exact (h j hj).2 e
  simp [n1, n2]
theorem nameR_any (s : List UInt8) (w : World) (hs : s.length ≤ 1073741824) : Calls Tryz.prog 93 #[.string (bstr s)] w fun e w' => e = .returned (.bool (namedI s)) ∧ w = w' := by
  have ssz : (bstr s).size = s.length := bstr_size s
  by_cases h1 : s = []
  · subst h1
    go_enter Tryz.func93, Tryz.ntmps93
    go_wp2
    go_ret
    exact ⟨rfl, rfl⟩
  by_cases h2 : s = [46]
  · subst h2
    go_enter Tryz.func93, Tryz.ntmps93
    go_wp2
    go_ret
    exact ⟨rfl, rfl⟩
  by_cases h3 : s = [46, 46]
  · subst h3
    go_enter Tryz.func93, Tryz.ntmps93
    go_wp2
    go_ret
    exact ⟨rfl, rfl⟩
  by_cases h4 : s = [46, 103, 105, 116]
  · subst h4
    go_enter Tryz.func93, Tryz.ntmps93
    go_wp2
    go_ret
    exact ⟨rfl, rfl⟩
  have H1 := Lib.hid h1; have H2 := Lib.hid h2; have H3 := Lib.hid h3; have H4 := Lib.hid h4
  have e0 : s.isEmpty = false := by simpa using h1
  have e2 : (s == [46]) = false := by simpa using h2
  have e3 : (s == [46, 46]) = false := by simpa using h3
  have e4 : (s == [46, 103, 105, 116]) = false := by simpa using h4
  clear h1 h2 h3 h4
  by_cases h5 : s.length ≤ 100
  · have d2 : decide ((100 : Int) < (s.length : Int)) = false := decide_eq_false (by omega)
    have d3 : decide (100 < s.length) = false := decide_eq_false (by omega)
    have H5 := Lib.hid h5
    go_enter Tryz.func93, Tryz.ntmps93
    go_wp2
    go_loopw [3] (fun t3 wr => ∃ i : Nat, t3 = .int .i64 (i : Int) ∧ i ≤ s.length ∧ Hid (∀ j (hj : j < s.length), j < i → s[j] ≠ 47 ∧ s[j] ≠ 0) ∧ wr = w) (fun t3 _ => (s.length - intOf t3).toNat)
    case atStart => exact ⟨0, rfl, by omega, Lib.hid (fun j hj h => by omega), rfl⟩
    case round =>
      obtain ⟨i, rfl, hi, HT, rfl⟩ := hrel
      by_cases hil : i < s.length
      · obtain ⟨c, hc⟩ : ∃ c, c = s[i] := ⟨_, rfl⟩
        have hcl := c.toNat_lt
        have hin := idx_str s i hil wr
        rw [← hc] at hin
        by_cases hc0 : c = 47
        · have HB := Lib.hid (namedI_bad hil (.inl (by rw [← hc]; exact hc0)))
          have q0 : ((c.toNat : Int) == 47) = true := by rw [hc0]; rfl
          clear hc0 hc
          go_wp2
          go_ret
          exact ⟨by rw [HB.out]; rfl, rfl⟩
        · have q0 : ((c.toNat : Int) == 47) = false := by
            simp only [beq_eq_false_iff_ne, ne_eq]
            intro e
            exact hc0 (UInt8.toNat_inj.1 (by show c.toNat = 47; omega))
          by_cases hc1 : c = 0
          · have HB := Lib.hid (namedI_bad hil (.inr (by rw [← hc]; exact hc1)))
            have q1 : ((c.toNat : Int) == 0) = true := by rw [hc1]; rfl
            clear hc0 hc1 hc
            go_wp2
            go_ret
            exact ⟨by rw [HB.out]; rfl, rfl⟩
          · have q1 : ((c.toNat : Int) == 0) = false := by
              simp only [beq_eq_false_iff_ne, ne_eq]
              intro e
              exact hc1 (UInt8.toNat_inj.1 (by show c.toNat = 0; omega))
            have HT2 : Hid (∀ j (hj : j < s.length), j < i + 1 → s[j] ≠ 47 ∧ s[j] ≠ 0) := Lib.hid (fun j hj h => by
              by_cases e : j = i
              · subst e; rw [← hc]; exact ⟨hc0, hc1⟩
              · exact HT.out j hj (by omega))
            clear hc0 hc1 hc HT
            go_wp2
            go_roundw
            case rel => exact ⟨i + 1, by simp, by omega, HT2, trivial⟩
            case measure => simp only [intOf]; omega
      · have HB := Lib.hid (namedI_good H1.out H2.out H3.out H4.out H5.out (fun j hj => HT.out j hj (by omega)))
        have hle : s.length ≤ i := by omega
        go_wp2
        go_ret
        exact ⟨by rw [HB.out]; rfl, rfl⟩
  · have d2 : decide ((100 : Int) < (s.length : Int)) = true := decide_eq_true (by omega)
    have d3 : decide (100 < s.length) = true := decide_eq_true (by omega)
    have HB : Hid (namedI s = false) := Lib.hid (by rw [namedI_eq s H1.out H2.out H3.out H4.out, decide_eq_false h5]; simp)
    clear h5
    go_enter Tryz.func93, Tryz.ntmps93
    go_wp2
    go_ret
    exact ⟨by rw [HB.out]; rfl, rfl⟩
theorem modeR_any (m : Int) (w : World) : Calls Tryz.prog 92 #[.int .i64 m] w fun e w' => e = .returned (.string (bstr (modeD m))) ∧ w = w' := by
  by_cases h1 : m = 16384
  · subst h1
    go_enter Tryz.func92, Tryz.ntmps92
    go_wp2
    go_ret
    exact ⟨rfl, rfl⟩
  by_cases h2 : m = 33188
  · subst h2
    go_enter Tryz.func92, Tryz.ntmps92
    go_wp2
    go_ret
    exact ⟨rfl, rfl⟩
  by_cases h3 : m = 33261
  · subst h3
    go_enter Tryz.func92, Tryz.ntmps92
    go_wp2
    go_ret
    exact ⟨rfl, rfl⟩
  by_cases h4 : m = 40960
  · subst h4
    go_enter Tryz.func92, Tryz.ntmps92
    go_wp2
    go_ret
    exact ⟨rfl, rfl⟩
  by_cases h5 : m = 57344
  · subst h5
    go_enter Tryz.func92, Tryz.ntmps92
    go_wp2
    go_ret
    exact ⟨rfl, rfl⟩
  have e : modeD m = [] := by unfold modeD; rw [if_neg h1, if_neg h2, if_neg h3, if_neg h4, if_neg h5]
  rw [e]
  have t1 : (m == 16384) = false := by simpa using h1
  have t2 : (m == 33188) = false := by simpa using h2
  have t3 : (m == 33261) = false := by simpa using h3
  have t4 : (m == 40960) = false := by simpa using h4
  have t5 : (m == 57344) = false := by simpa using h5
  clear e h1 h2 h3 h4 h5
  go_enter Tryz.func92, Tryz.ntmps92
  go_wp2
  go_ret
  exact ⟨rfl, rfl⟩
theorem keyR_any (e : En) (hs : e.name.length ≤ 1073741824) (w : World) :
    Calls Tryz.prog 95 #[ev e] w fun z w' => z = .returned (.string (bstr (keyI e.mode e.name))) ∧ Below w.heap.size w w' := by
  obtain ⟨W0, hW0⟩ : ∃ W0, W0 = w.alloc (.cells (ecell e).toArray 80) := ⟨_, rfl⟩
  have hb0 : Below w.heap.size w W0 := by rw [hW0]; exact (Below.refl _ _).alloc (Nat.le_refl _) _
  have r0 : W0.heap[w.heap.size]? = some (.cells (ecell e).toArray 80 (0, 0)) := by rw [hW0]; exact heap_alloc_new _ _
  have h0 : W0.cell? ⟨w.heap.size, 0, none⟩ = some (.int .i64 e.mode) := by rw [cell_of_row _ _ _ _ _ _ r0]; rfl
  have h1 : W0.cell? ⟨w.heap.size, 1, none⟩ = some (.string (bstr e.name)) := by rw [cell_of_row _ _ _ _ _ _ r0]; rfl
  obtain ⟨m, hm⟩ : ∃ m, m = e.mode := ⟨_, rfl⟩
  obtain ⟨s, hse⟩ : ∃ s, s = e.name := ⟨_, rfl⟩
  rw [← hm] at h0
  rw [← hse] at h1 hs
  rw [← hm, ← hse]
  have HW0 := Lib.hid hW0; have HB0 := Lib.hid hb0
  clear hW0 hb0 r0 hm hse
  by_cases h : m = 16384
  · have t : (m == 16384) = true := by simpa using h
    have K : Hid (keyI m s = s ++ [47]) := Lib.hid (by unfold keyI; rw [if_pos h])
    have hadd : (bstr s ++ ⟨#[47]⟩ : ByteArray) = bstr (s ++ [47]) := bstr_app s [47]
    have HA := Lib.hid hadd
    clear h hadd
    go_enter Tryz.func95, Tryz.ntmps95
    go_upto_region 1 with fail
    rw [← HW0.out]
    go_wp2
    go_ret
    exact ⟨by rw [K.out, ← HA.out]; rfl, HB0.out⟩
  · have t : (m == 16384) = false := by simpa using h
    have K : Hid (keyI m s = s) := Lib.hid (by unfold keyI; rw [if_neg h])
    clear h
    go_enter Tryz.func95, Tryz.ntmps95
    go_upto_region 1 with fail
    rw [← HW0.out]
    go_wp2
    go_ret
    exact ⟨by rw [K.out]; rfl, HB0.out⟩
theorem load_entR {w : World} {ad : Addr} {e : En} (h20 : e.id.length = 20) (h : Sl w (some ad) (ecell e)) : (loadVar 80 ad).run Tryz.prog w = .ok (ev e) w := by
  have hl : (loadCells ad (ecell e).length).run Tryz.prog w = .ok (ecell e).toArray w :=
    run_loadCells_list (P := Tryz.prog) w ad (ecell e) (fun j v hv => by obtain ⟨ad', q, hc⟩ := h j v hv; injection q with q; subst q; exact hc)
  rw [ecell_len h20] at hl
  have hagg : (isAgg 80).run Tryz.prog w = .ok true w := by kernel_rfl
  simp [loadVar, Sem.run_bind, hagg, hl]
end
section
open Go.RowKit
set_option maxRecDepth 100000
set_option maxHeartbeats 4000000
set_option linter.unusedVariables false
def msI : List Nat := [16384, 33188, 33261, 40960, 57344]
theorem mode_hit {i : Nat} (hi : i < 5) {s : List UInt8} (h : modeD (msI.getD i 0 : Nat) = s) : modeI s = (msI.getD i 0, true) := by
  subst h
  rcases (by omega : i = 0 ∨ i = 1 ∨ i = 2 ∨ i = 3 ∨ i = 4) with rfl | rfl | rfl | rfl | rfl <;> decide
theorem mode_miss {s : List UInt8} (h : ∀ i : Nat, i < 5 → modeD (msI.getD i 0 : Nat) ≠ s) : modeI s = (0, false) := by
  unfold modeI
  rw [if_neg (fun e => h 0 (by omega) e.symm), if_neg (fun e => h 1 (by omega) e.symm), if_neg (fun e => h 2 (by omega) e.symm), if_neg (fun e => h 3 (by omega) e.symm), if_neg (fun e => h 4 (by omega) e.symm)]
theorem modeOf_any (s : List UInt8) (w : World) (hz : Gz w) : Calls Tryz.prog 77 #[.string (bstr s)] w fun e w' => e = .returned (.tuple #[.int .i64 ((modeI s).1 : Nat), .bool (modeI s).2]) ∧ Below w.heap.size w w' := by
  obtain ⟨W1, hW1⟩ : ∃ W1, W1 = w.alloc (.cells #[.int .i64 16384, .int .i64 33188, .int .i64 33261, .int .i64 40960, .int .i64 57344] 3) := ⟨_, rfl⟩
  have hb1 : Below w.heap.size w W1 := by rw [hW1]; exact (Below.refl _ _).alloc (Nat.le_refl _) _
  have hr : W1.heap[w.heap.size]? = some (.cells #[.int .i64 16384, .int .i64 33188, .int .i64 33261, .int .i64 40960, .int .i64 57344] 3 (0, 0)) := by rw [hW1]; exact heap_alloc_new _ _
  have hcell : ∀ w', Below W1.heap.size W1 w' → ∀ i : Nat, i < 5 → w'.cell? ⟨w.heap.size, i, none⟩ = some (.int .i64 (msI.getD i 0 : Nat)) := fun w' h i hi => by
    rw [cell_of_row _ _ _ _ _ _ ((h.block _ (Array.getElem?_eq_some_iff.1 hr).1).trans hr)]
    rcases (by omega : i = 0 ∨ i = 1 ∨ i = 2 ∨ i = 3 ∨ i = 4) with rfl | rfl | rfl | rfl | rfl <;> rfl
  have HB1 := Lib.hid hb1; have HW1 := Lib.hid hW1; have HC := Lib.hid hcell; have HZ := Lib.hid (hz.below hb1)
  clear hW1 hb1 hr hcell hz
  go_enter Tryz.func77, Tryz.ntmps77
  go_upto_block 0 with fail
  rw [← HW1.out]
  go_step
  go_loopw [8] (fun t8 wr => ∃ i : Nat, t8 = .int .i64 (i : Int) ∧ i ≤ 5 ∧ Hid (∀ j : Nat, j < i → modeD (msI.getD j 0 : Nat) ≠ s) ∧ Hid (Below W1.heap.size W1 wr)) (fun t8 _ => (5 - intOf t8).toNat)
  case atStart => exact ⟨0, rfl, by omega, Lib.hid (fun j h => by omega), Lib.hid (Below.refl _ _)⟩
  case round =>
    obtain ⟨i, rfl, hi, HN, HBW⟩ := hrel
    by_cases h5 : i < 5
    · have hc := HC.out wr HBW.out i h5
      obtain ⟨m, hm⟩ : ∃ m : Nat, m = msI.getD i 0 := ⟨_, rfl⟩
      have km := mode_any (m : Int) wr (HZ.out.below HBW.out)
      have hm7 : m ≤ 65536 := by
        rw [hm]
        rcases (by omega : i = 0 ∨ i = 1 ∨ i = 2 ∨ i = 3 ∨ i = 4) with rfl | rfl | rfl | rfl | rfl <;> decide
      rw [← hm] at hc
      obtain ⟨d, hd⟩ : ∃ d, d = modeD (m : Int) := ⟨_, rfl⟩
      rw [← hd] at km
      by_cases he : d = s
      · have HX : Hid (modeI s = (m, true)) := Lib.hid (by rw [hm]; exact mode_hit h5 (by rw [← hm, ← hd]; exact he))
        have q1 : (d == s) = true := by simpa using he
        clear hm hd he
        go_wp2_with (go_at_call 91; (with_reducible refine km.mono ?_); rintro e w2 ⟨rfl, hb2⟩)
        go_ret2
        rw [HX.out]
        exact ⟨rfl, HB1.out.trans ((HBW.out.trans (hb2.mono HBW.out.size)).mono HB1.out.size)⟩
      · have q1 : (d == s) = false := by simpa using he
        have HN2 : Hid (∀ j : Nat, j < i + 1 → modeD (msI.getD j 0 : Nat) ≠ s) := Lib.hid (fun j h => by
          by_cases e : j = i
          · subst e; rw [← hm, ← hd]; exact he
          · exact HN.out j (by omega))
        clear hm hd he HN
        go_wp2_with (go_at_call 91; (with_reducible refine km.mono ?_); rintro e w2 ⟨rfl, hb2⟩)
        go_roundw
        case rel => exact ⟨i + 1, by simp, by omega, HN2, Lib.hid (HBW.out.trans (hb2.mono HBW.out.size))⟩
        case measure => simp only [intOf]; omega
    · have HX : Hid (modeI s = (0, false)) := Lib.hid (mode_miss (fun j h => HN.out j (by omega)))
      obtain rfl : i = 5 := by omega
      clear HN
      go_wp2
      go_ret2
      rw [HX.out]
      exact ⟨rfl, HB1.out.trans (HBW.out.mono HB1.out.size)⟩
end
section
open Go.RowKit
set_option maxRecDepth 100000
set_option maxHeartbeats 2000000
set_option linter.unusedVariables false
def ecs (l : List En) : List Value := l.flatMap ecell
abbrev EAll (l : List En) : Prop := ∀ e ∈ l, e.id.length = 20
abbrev gtE (l : List En) (i : Nat) : En := l.getD i ⟨0, [], []⟩
theorem ecs_len : ∀ l : List En, EAll l → (ecs l).length = l.length * 22
  | [], _ => rfl
  | x :: l, h => by
    have ih := ecs_len l (fun y hy => h y (by simp [hy]))
    have hx := ecell_len (h x (by simp))
    unfold ecs at *
    rw [List.flatMap_cons, List.length_append, ih, hx, List.length_cons]; omega
theorem ecs_at : ∀ (l : List En) (_ : EAll l) (i j : Nat), i < l.length → j < 22 → (ecs l)[i * 22 + j]? = (ecell (gtE l i))[j]?
  | [], _, i, _, h, _ => by simp at h
  | x :: l, ha, i, j, h, hj => by
    have hx := ecell_len (ha x (by simp))
    have ih := ecs_at l (fun y hy => ha y (by simp [hy]))
    unfold ecs at *
    rw [List.flatMap_cons]
    cases i with
    | zero => rw [List.getElem?_append_left (by omega), Nat.zero_mul, Nat.zero_add]; rfl
    | succ i =>
      rw [List.getElem?_append_right (by omega), hx, show (i + 1) * 22 + j - 22 = i * 22 + j by omega, ih i j (by simpa using h) hj]
      simp [gtE]
theorem ecs_one (l : List En) : ∀ u ∈ ecs l, u.oneCell' = true := fun u hu => by
  unfold ecs at hu
  rw [List.mem_flatMap] at hu
  obtain ⟨e, _, he⟩ := hu
  rcases List.mem_cons.1 he with h | he
  · subst h; rfl
  · rcases List.mem_cons.1 he with h | he
    · subst h; rfl
    · exact bvs_one _ u he
theorem ecs_app (a b : List En) : ecs (a ++ b) = ecs a ++ ecs b := by simp [ecs]
theorem gtE_mem {l : List En} {i : Nat} (h : i < l.length) : gtE l i ∈ l := by
  unfold gtE
  rw [List.getD_eq_getElem?_getD, List.getElem?_eq_getElem h]
  exact List.getElem_mem h
/-- one of the row -/
theorem Sl.ent {w : World} {A : Option Addr} {l : List En} (h : Sl w A (ecs l)) (ha : EAll l) {i : Nat} (hi : i < l.length) : ∃ ad, A = some ad ∧ Sl w (some (ad.add (i * 22))) (ecell (gtE l i)) := by
  have h20 := ha _ (gtE_mem hi)
  obtain ⟨ad, e, _⟩ := h (i * 22 + 0) (.int .i64 (gtE l i).mode) (by rw [ecs_at l ha i 0 hi (by omega)]; rfl)
  refine ⟨ad, e, fun j v hj => ⟨_, rfl, ?_⟩⟩
  have hlt := (List.getElem?_eq_some_iff.1 hj).1
  rw [ecell_len h20] at hlt
  obtain ⟨ad', e', hc⟩ := h (i * 22 + j) v (by rw [ecs_at l ha i j hi hlt]; exact hj)
  rw [e] at e'
  injection e' with e'
  subst e'
  rw [Addr.add_add]
  exact hc
end
section
open Go.RowKit
set_option maxRecDepth 100000
set_option maxHeartbeats 4000000
set_option linter.unusedVariables false
theorem wpList_mapU {P : Program} {w w' : World} {ops : Array Oper} {rest : List Oper} {o : Oper} {a : Act} {Q : Exit → Act → World → Prop} (hg : o.guard = none) (t : TypeId) (m x v : Operand) (ho : o.op = .mapUpdate t m x v)
    (hr : (Instr.mapUpdate t (a.eval m) (a.eval x) (a.eval v)).run P w = .ok () w') (h : wpList P ops Q rest (a.put o.dst undef) w') : wpList P ops Q (o :: rest) a w := by
  refine wpList_plain hg fun K hK => ?_
  unfold Oper.wp
  simp [execOp, ho, hr, Result.andThen]
  exact hK _ _ h
theorem wpList_mkMap {P : Program} {w : World} {ops : Array Oper} {rest : List Oper} {o : Oper} {a : Act} {Q : Exit → Act → World → Prop} (hg : o.guard = none) (t : TypeId) (ho : o.op = .makeMap t none) (h : wpList P ops Q rest (a.put o.dst (.map (some w.heap.size))) (w.alloc (.map #[] 0))) : wpList P ops Q (o :: rest) a w := by
  refine wpList_plain hg fun K hK => ?_
  have hr : (Instr.makeMap t none).run P w = .ok (.map (some w.heap.size)) (w.alloc (.map #[] 0)) := rfl
  unfold Oper.wp
  simp [execOp, ho, hr, Result.andThen]
  exact hK _ _ h
theorem run_lookOp {P : Program} {o : Oper} {a : Act} {w : World} (t : TypeId) (m x : Operand) (c : Bool) (ho : o.op = .lookup t m x c) (u y v : Value) (hm : a.eval m = u) (hx : a.eval x = y) (hc : (Instr.lookup t u y c).run P w = .ok v w) : (execOp (Act.eval a) o).run P w = .ok (.value v) w := by
  simp [execOp, ho, hm, hx, hc, Result.andThen]
theorem vbstr_inj (a b : List UInt8) (h : (Value.string (bstr a)) = .string (bstr b)) : a = b := by
  injection h with h
  exact bstr_inj h
/-- the names ahead, each said to be there -/
def hadL (l : List En) : List (List UInt8 × Bool) := l.map (fun e => (e.name, true))
theorem hadL_keys (l : List En) : (hadL l).map (·.1) = l.map (·.name) := by simp [hadL]
theorem mget_had (l : List En) (x : List UInt8) : mget (hadL l) x = if (l.map (·.name)).contains x then some true else none := by
  have h := mget_iff (L := hadL l) (x := x)
  rw [hadL_keys] at h
  cases hq : mget (hadL l) x with
  | none =>
    rw [hq] at h
    have : x ∉ l.map (·.name) := by simpa using h
    rw [if_neg (by simpa using this)]
  | some v =>
    have hm := mget_mem hq
    obtain ⟨e, _, he⟩ := List.mem_map.1 hm
    injection he with e1 e2
    subst e2
    rw [hq] at h
    have : x ∈ l.map (·.name) := by simpa using h
    rw [if_pos (by simpa using this)]
abbrev HadIs (w : World) (b : Nat) (l : List En) : Prop := MapIs Tryz.prog 9 (fun s : List UInt8 => Value.string (bstr s)) Value.bool w b (hadL l)
theorem key_str (s : List UInt8) (h : s.length ≤ 1073741824) : ∃ kl, keyOf Tryz.prog 9 (.string (bstr s)) = some kl := ⟨_, WideMaps.keyOf_string_mk Tryz.underlying9 (by rw [bstr_size]; unfold maxLen; omega)⟩
theorem had_look {w : World} {b : Nat} {l : List En} (h : HadIs w b l) (x : List UInt8) (hx : x.length ≤ 1073741824) : (Instr.lookup 168 (.map (some b)) (.string (bstr x)) false).run Tryz.prog w = .ok (.bool ((l.map (·.name)).contains x)) w := by
  obtain ⟨kl, hk⟩ := key_str x hx
  have hz : (zeroValue 4).run Tryz.prog w = .ok (.bool false) w := by kernel_rfl
  have := MapIs.look (WideMaps.string_law Tryz.underlying9) vbstr_inj Tryz.underlying168 hz h x hk false
  rw [mget_had] at this
  rw [this]
  cases (l.map (·.name)).contains x <;> rfl
theorem had_store {w : World} {b : Nat} {l : List En} (h : HadIs w b l) (e : En) (he : e.name.length ≤ 1073741824) (hn : (l.map (·.name)).contains e.name = false) :
    ∃ w', (Instr.mapUpdate 168 (.map (some b)) (.string (bstr e.name)) (.bool true)).run Tryz.prog w = .ok () w' ∧ HadIs w' b (l ++ [e]) ∧ Kp (fun k => k = b) w w' ∧ w'.heap.size = w.heap.size := by
  obtain ⟨kl, hk⟩ := key_str e.name he
  obtain ⟨w', h1, h2, h3, h4⟩ := MapIs.update (WideMaps.string_law Tryz.underlying9) vbstr_inj Tryz.underlying168 h e.name true hk
  refine ⟨w', h1, ?_, h3, h4⟩
  have hs : mset (hadL l) e.name true = hadL (l ++ [e]) := by
    unfold mset
    rw [hadL_keys, if_neg (by simpa using hn)]
    simp [hadL]
  rw [hs] at h2
  exact h2
theorem ordE_step {l : List En} {i : Nat} (hi : i < l.length) : ordE (l.take i) (l.drop i) = (ordQ (l.take i) (gtE l i) && ordE (l.take (i + 1)) (l.drop (i + 1))) := by
  have e : l.drop i = gtE l i :: l.drop (i + 1) := by
    unfold gtE
    rw [List.getD_eq_getElem?_getD, List.getElem?_eq_getElem hi]
    exact List.drop_eq_getElem_cons hi
  have t : l.take (i + 1) = l.take i ++ [gtE l i] := by
    unfold gtE
    rw [List.getD_eq_getElem?_getD, List.getElem?_eq_getElem hi]
    exact List.take_succ_eq_append_getElem hi
  rw [e, ordE, ← t]
theorem take_last {l : List En} {j : Nat} (hj : j < l.length) : (l.take (j + 1)).getLast? = some (gtE l j) := by
  have e : gtE l j = l[j] := by
    unfold gtE
    rw [List.getD_eq_getElem?_getD, List.getElem?_eq_getElem hj]; rfl
  rw [e, List.take_succ_eq_append_getElem hj, List.getLast?_append]
  rfl
theorem ordQ_had {p : List En} {e : En} (h : (p.map (·.name)).contains e.name = true) : ordQ p e = false := by
  unfold ordQ; rw [h]; rfl
theorem ordQ_first {e : En} : ordQ [] e = true := rfl
theorem ordQ_next {l : List En} {j : Nat} (hj : j < l.length) {e : En} (h : ((l.take (j + 1)).map (·.name)).contains e.name = false) : ordQ (l.take (j + 1)) e = decide (oI (gtE l j) e < 0) := by
  unfold ordQ
  rw [h, take_last hj]
  rfl
theorem ordered_any (l : List En) (ha : EAll l) (hs : ∀ e ∈ l, e.name.length ≤ 1048576) (hn : l.length < 100000) (A : Option Addr) (cap : Nat) (w : World) (hA : Sl w A (ecs l)) :
    Calls Tryz.prog 79 #[.slice A l.length cap] w fun z w' => z = .returned (.bool (ordE [] l)) ∧ Below w.heap.size w w' := by
  obtain ⟨n, hnn⟩ : ∃ n, n = l.length := ⟨_, rfl⟩
  rw [← hnn] at hn ⊢
  obtain ⟨r, hr⟩ : ∃ r, r = ordE [] l := ⟨_, rfl⟩
  rw [← hr]
  obtain ⟨W1, hW1⟩ : ∃ W1, W1 = w.alloc (.map #[] 0) := ⟨_, rfl⟩
  have hb1 : Below w.heap.size w W1 := by rw [hW1]; exact (Below.refl _ _).alloc (Nat.le_refl _) _
  have hm1 : HadIs W1 w.heap.size [] := by rw [hW1]; exact MapIs.made w
  have HA := Lib.hid hA; have HB1 := Lib.hid hb1; have HM1 := Lib.hid hm1; have HW1 := Lib.hid hW1; have HR := Lib.hid hr; have HNN := Lib.hid hnn; have HAL := Lib.hid ha; have HS := Lib.hid hs
  clear hA hb1 hm1 hW1 hr hnn ha hs
  go_enter Tryz.func79, Tryz.ntmps79
  go_upto_region 2 with (refine wpList_mkMap rfl _ rfl ?_)
  rw [← HW1.out]
  go_upto_block 0 with fail
  go_step
  go_loopw [9] (fun t9 wr => ∃ i : Nat, t9 = .int .i64 (i : Int) ∧ i ≤ n ∧ Hid (ordE (l.take i) (l.drop i) = r) ∧ Hid (HadIs wr w.heap.size (l.take i)) ∧ Hid (Kp (fun k => k = w.heap.size) W1 wr)) (fun t9 _ => (n - intOf t9).toNat)
  case atStart => exact ⟨0, rfl, by omega, Lib.hid (by rw [HR.out]; rfl), HM1, Lib.hid (Kp.refl _ _)⟩
  case round =>
    obtain ⟨i, rfl, hi, HT, HM, HK⟩ := hrel
    by_cases hin : i < n
    · have hil : i < l.length := by rw [← HNN.out]; exact hin
      obtain ⟨ad, hA1, hse⟩ := Sl.ent HA.out HAL.out hil
      subst hA1
      obtain ⟨e, hee⟩ : ∃ e, e = gtE l i := ⟨_, rfl⟩
      have e20 : e.id.length = 20 := by rw [hee]; exact HAL.out _ (gtE_mem hil)
      have esz : e.name.length ≤ 1048576 := by rw [hee]; exact HS.out _ (gtE_mem hil)
      have hst := ordE_step hil
      rw [HT.out, ← hee] at hst
      rw [← hee] at hse
      have bw : Below w.heap.size w wr := HB1.out.trans (HK.out.toBelow HB1.out.size (fun k h e => by omega))
      have lx := load_ent e20 (hse.below bw)
      obtain ⟨nm, hnm⟩ : ∃ nm, nm = e.name := ⟨_, rfl⟩
      have zi := Lib.hid (infoEn e20); have zs := Lib.hid (zen_size e20); have zo := Lib.hid (ecell_one e)
      have ST := Lib.hid hst; have E20 := Lib.hid e20; have ESZ := Lib.hid esz; have BW := Lib.hid bw; have HEE := Lib.hid hee; have HNM := Lib.hid hnm; have HIL := Lib.hid hil
      clear hst e20 esz bw hse hee hnm HT hil
      go_upto_region 5 with (first
        | (refine wpList_loadG 40 (.tmp 12) rfl (ad.add (i * 22)) rfl _ lx rfl ?_)
        | (simp only [zenlit]; refine wpList_store_row rfl 40 (.tmp 5) (.tmp 13) rfl wr.heap.size (ecell e).toArray rfl rfl 40 zen (heap_alloc_new _ _) zi.out zs.out zo.out ?_))
      obtain ⟨r5, b5⟩ := new_set wr 40 zen (ecell e).toArray
      obtain ⟨W5, hW5⟩ : ∃ W5, W5 = (wr.alloc (.cells zen 40)).setRow wr.heap.size (ecell e).toArray := ⟨_, rfl⟩
      rw [← hW5] at r5 b5
      try simp only [Act.put]
      rw [← hW5]
      have S5 : Sl W5 (some ⟨wr.heap.size, 0, none⟩) (ecell e) := Sl.of_block r5 (fun j v hj => by simpa using hj)
      have LE := Lib.hid (fun w' (h : Below W5.heap.size W5 w') => load_ent E20.out (S5.below h))
      have LN := Lib.hid (fun w' (h : Below W5.heap.size W5 w') => load_oneC (T := 9) (fun w => by kernel_rfl) (show w'.cell? ⟨wr.heap.size, 1, none⟩ = some (.string (bstr nm)) by
        have := en_name (S5.below h)
        rw [add_plain, Nat.zero_add] at this
        rw [this, HNM.out]))
      obtain ⟨hd, hhd⟩ : ∃ hd, hd = ((l.take i).map (·.name)).contains e.name := ⟨_, rfl⟩
      have HM5 := Lib.hid (HM.out.below b5)
      have LK : Hid (∀ w', Below W5.heap.size W5 w' → (Instr.lookup 168 (.map (some w.heap.size)) (.string (bstr nm)) false).run Tryz.prog w' = .ok (.bool hd) w') := Lib.hid (fun w' h => by
        rw [hhd, HNM.out]
        exact had_look (HM5.out.below h) e.name (by have := ESZ.out; omega))
      have B5 := Lib.hid b5
      have HHD := Lib.hid hhd
      have BW5 := Lib.hid (BW.out.trans (b5.mono BW.out.size))
      clear r5 b5 hW5 S5 hhd lx zi zs zo
      cases hd with
      | true =>
        have HF : Hid (r = false) := Lib.hid (by rw [ST.out, ordQ_had HHD.out.symm]; rfl)
        refine wp_region_plan [(0, false), (1, false), (2, false), (3, false), (4, false), (5, false), (6, false), (7, false), (8, false), (9, false), (10, false), (11, false), (12, false), (13, false), (14, true), (15, false), (16, false), (17, false)] (fun u v => Below u.heap.size u v) bel_refl bel_trans (by kernel_rfl) (by kernel_rfl) ?_
        iterate 14 (refine wpG_still _ rfl rfl ?_; first | (refine wpQuiet_load 9 (.tmp 15) rfl ⟨wr.heap.size, 1, none⟩ rfl (.string (bstr nm)) (fun w' h => LN.out w' (bel_undrew h)) _ rfl rfl ?_; simp only [List.set_cons_succ, List.set_cons_zero]) | (refine wpQuiet_pureC _ rfl rfl (.bool true) (fun w' h => run_lookOp 168 (.tmp 14) (.tmp 16) false rfl (.map (some w.heap.size)) (.string (bstr nm)) _ rfl rfl (LK.out w' (bel_undrew h))) ?_; simp only [List.set_cons_succ, List.set_cons_zero]) | (go_big_quiet_step ((intro hb; rfl))); refine wpQuiet_nil ?_)
        refine wpG_no _ rfl rfl ?_
        simp only [Act.put, List.setIfInBounds_toArray, List.set_cons_succ, List.set_cons_zero]
        iterate 3 (refine wpG_still _ rfl rfl ?_; go_big_quiet_step ((intro hb; rfl)); refine wpQuiet_nil ?_)
        refine wpG_nil ?_
        go_wp2
        go_ret
        exact ⟨by rw [HF.out]; rfl, BW5.out.drew⟩
      | false =>
        have TK : Hid (l.take (i + 1) = l.take i ++ [e]) := Lib.hid (by
          rw [HEE.out]
          unfold gtE
          rw [List.getD_eq_getElem?_getD, List.getElem?_eq_getElem HIL.out]
          exact List.take_succ_eq_append_getElem HIL.out)
        by_cases h0 : i = 0
        · have HT2 : Hid (ordE (l.take (i + 1)) (l.drop (i + 1)) = r) := Lib.hid (by rw [ST.out, h0]; rfl)
          have z0 : decide ((0 : Int) < (i : Int)) = false := decide_eq_false (by omega)
          have z1 : decide (0 < i) = false := decide_eq_false (by omega)
          clear h0
          refine wp_region_plan [(0, false), (1, false), (2, false), (3, false), (4, false), (5, false), (6, false), (7, false), (8, false), (9, false), (10, false), (11, false), (12, false), (13, false), (14, true), (15, false), (16, false), (17, false)] (fun u v => Below u.heap.size u v) bel_refl bel_trans (by kernel_rfl) (by kernel_rfl) ?_
          iterate 14 (refine wpG_still _ rfl rfl ?_; first | (refine wpQuiet_load 9 (.tmp 15) rfl ⟨wr.heap.size, 1, none⟩ rfl (.string (bstr nm)) (fun w' h => LN.out w' (bel_undrew h)) _ rfl rfl ?_; simp only [List.set_cons_succ, List.set_cons_zero]) | (refine wpQuiet_pureC _ rfl rfl (.bool false) (fun w' h => run_lookOp 168 (.tmp 14) (.tmp 16) false rfl (.map (some w.heap.size)) (.string (bstr nm)) _ rfl rfl (LK.out w' (bel_undrew h))) ?_; simp only [List.set_cons_succ, List.set_cons_zero]) | (go_big_quiet_step ((intro hb; rfl))); refine wpQuiet_nil ?_)
          refine wpG_no _ rfl rfl ?_
          simp only [Act.put, List.setIfInBounds_toArray, List.set_cons_succ, List.set_cons_zero]
          iterate 3 (refine wpG_still _ rfl rfl ?_; go_big_quiet_step ((intro hb; rfl)); refine wpQuiet_nil ?_)
          refine wpG_nil ?_
          have b56 := Lib.hid ((Below.refl W5.heap.size W5).drew)
          have MI6 := HM5.out.below b56.out
          obtain ⟨w7, hu7, hm7, hk7, hz7⟩ := had_store MI6 e (by have := ESZ.out; omega) HHD.out.symm
          rw [← HNM.out] at hu7
          have c6 := LN.out _ b56.out
          have HM7 := Lib.hid hm7
          have HK7 : Hid (Kp (fun k => k = w.heap.size) W1 w7) := Lib.hid ((HK.out.trans (Kp.ofBelow (B5.out.trans (b56.out.mono B5.out.size)))).trans hk7)
          clear hm7 hk7 hz7 MI6
          go_wp2_with (first
            | (refine wpList_loadG 9 (.tmp 33) rfl ⟨wr.heap.size, 1, none⟩ rfl _ c6 rfl ?_)
            | (refine wpList_mapU rfl 168 (.tmp 32) (.tmp 34) (.const (.bool true)) rfl hu7 ?_))
          go_roundw
          case rel => exact ⟨i + 1, by simp, by omega, HT2, Lib.hid (by rw [TK.out]; exact HM7.out), HK7⟩
          case measure => simp only [intOf]; omega

        · obtain ⟨j, hj⟩ : ∃ j, i = j + 1 := ⟨i - 1, by omega⟩
          have hjl : j < l.length := by have := HIL.out; omega
          obtain ⟨p, hp⟩ : ∃ p, p = gtE l j := ⟨_, rfl⟩
          have p20 : p.id.length = 20 := by rw [hp]; exact HAL.out _ (gtE_mem hjl)
          have psz : p.name.length ≤ 1048576 := by rw [hp]; exact HS.out _ (gtE_mem hjl)
          have hq : ordQ (l.take i) e = decide (oI p e < 0) := by
            rw [hp, hj]
            exact ordQ_next hjl (by rw [← hj]; exact HHD.out.symm)
          obtain ⟨ad', e1, hsp⟩ := Sl.ent HA.out HAL.out hjl
          injection e1 with e1
          subst e1
          rw [← hp] at hsp
          have LP := Lib.hid (fun w' (h : Below W5.heap.size W5 w') => load_ent p20 (hsp.below (BW5.out.trans (h.mono BW5.out.size))))
          have KO := Lib.hid (fun w' => order_any p e p20 E20.out (by omega) (by have := ESZ.out; omega) w')
          obtain ⟨o, ho⟩ : ∃ o, o = oI p e := ⟨_, rfl⟩
          have KO2 : Hid (∀ w', Calls Tryz.prog 22 #[ev p, ev e] w' fun z w'' => z = .returned (.int .i64 o) ∧ Below w'.heap.size w' w'') := Lib.hid (by rw [ho]; exact KO.out)
          clear KO
          have KO := KO2
          clear KO2
          have z0 : decide ((0 : Int) < (i : Int)) = true := decide_eq_true (by omega)
          have z1 : decide (0 < i) = true := decide_eq_true (by omega)
          have zw : IntKind.i64.wrap ((i : Int) - 1) = (j : Int) := by
            have := HIL.out
            rw [IntKind.wrap_i64]
            omega
          have zj : j < n := by omega
          rw [hq, ← ho] at ST
          clear hsp hp p20 psz hq ho h0 hjl hj
          by_cases hlt : o < 0
          · have HT2 : Hid (ordE (l.take (i + 1)) (l.drop (i + 1)) = r) := Lib.hid (by rw [ST.out, decide_eq_true hlt]; rfl)
            have q0 : decide ((0 : Int) ≤ o) = false := decide_eq_false (by omega)
            clear hlt
            refine wp_region_plan [(0, false), (1, false), (2, false), (3, false), (4, false), (5, false), (6, false), (7, false), (8, false), (9, false), (10, false), (11, false), (12, false), (13, false), (14, true), (15, false), (16, false), (17, false)] (fun u v => Below u.heap.size u v) bel_refl bel_trans (by kernel_rfl) (by kernel_rfl) ?_
            iterate 14 (refine wpG_still _ rfl rfl ?_; first | (refine wpQuiet_load 9 (.tmp 15) rfl ⟨wr.heap.size, 1, none⟩ rfl (.string (bstr nm)) (fun w' h => LN.out w' (bel_undrew h)) _ rfl rfl ?_; simp only [List.set_cons_succ, List.set_cons_zero]) | (refine wpQuiet_pureC _ rfl rfl (.bool false) (fun w' h => run_lookOp 168 (.tmp 14) (.tmp 16) false rfl (.map (some w.heap.size)) (.string (bstr nm)) _ rfl rfl (LK.out w' (bel_undrew h))) ?_; simp only [List.set_cons_succ, List.set_cons_zero]) | (refine wpQuiet_load 40 (.tmp 25) rfl (ad.add (j * 22)) rfl (ev p) (fun w' h => LP.out w' (bel_undrew h)) _ rfl rfl ?_; simp only [List.set_cons_succ, List.set_cons_zero]) | (refine wpQuiet_load 40 (.tmp 5) rfl ⟨wr.heap.size, 0, none⟩ rfl (ev e) (fun w' h => LE.out w' (bel_undrew h)) _ rfl rfl ?_; simp only [List.set_cons_succ, List.set_cons_zero]) | (go_big_quiet_step ((intro hb; rfl))); refine wpQuiet_nil ?_)
            refine wpG_call _ rfl rfl 22 _ (fun w => rfl) ?_
            refine calls_as (args' := #[ev p, ev e]) (by simp [Act.eval]) ?_
            refine (KO.out _).mono ?_
            rintro z w6 ⟨rfl, hb6⟩
            refine ⟨_, rfl, hb6, ?_⟩
            simp only [Act.put, List.setIfInBounds_toArray, List.set_cons_succ, List.set_cons_zero]
            iterate 3 (refine wpG_still _ rfl rfl ?_; go_big_quiet_step ((intro hb; rfl)); refine wpQuiet_nil ?_)
            refine wpG_nil ?_
            have b56 := Lib.hid (bel_undrew hb6)
            have MI6 := HM5.out.below b56.out
            obtain ⟨w7, hu7, hm7, hk7, hz7⟩ := had_store MI6 e (by have := ESZ.out; omega) HHD.out.symm
            rw [← HNM.out] at hu7
            have c6 := LN.out _ b56.out
            have HM7 := Lib.hid hm7
            have HK7 : Hid (Kp (fun k => k = w.heap.size) W1 w7) := Lib.hid ((HK.out.trans (Kp.ofBelow (B5.out.trans (b56.out.mono B5.out.size)))).trans hk7)
            clear hm7 hk7 hz7 MI6
            go_wp2_with (first
              | (refine wpList_loadG 9 (.tmp 33) rfl ⟨wr.heap.size, 1, none⟩ rfl _ c6 rfl ?_)
              | (refine wpList_mapU rfl 168 (.tmp 32) (.tmp 34) (.const (.bool true)) rfl hu7 ?_))
            go_roundw
            case rel => exact ⟨i + 1, by simp, by omega, HT2, Lib.hid (by rw [TK.out]; exact HM7.out), HK7⟩
            case measure => simp only [intOf]; omega

          · have HF : Hid (r = false) := Lib.hid (by rw [ST.out, decide_eq_false hlt]; rfl)
            have q0 : decide ((0 : Int) ≤ o) = true := decide_eq_true (by omega)
            clear hlt
            refine wp_region_plan [(0, false), (1, false), (2, false), (3, false), (4, false), (5, false), (6, false), (7, false), (8, false), (9, false), (10, false), (11, false), (12, false), (13, false), (14, true), (15, false), (16, false), (17, false)] (fun u v => Below u.heap.size u v) bel_refl bel_trans (by kernel_rfl) (by kernel_rfl) ?_
            iterate 14 (refine wpG_still _ rfl rfl ?_; first | (refine wpQuiet_load 9 (.tmp 15) rfl ⟨wr.heap.size, 1, none⟩ rfl (.string (bstr nm)) (fun w' h => LN.out w' (bel_undrew h)) _ rfl rfl ?_; simp only [List.set_cons_succ, List.set_cons_zero]) | (refine wpQuiet_pureC _ rfl rfl (.bool false) (fun w' h => run_lookOp 168 (.tmp 14) (.tmp 16) false rfl (.map (some w.heap.size)) (.string (bstr nm)) _ rfl rfl (LK.out w' (bel_undrew h))) ?_; simp only [List.set_cons_succ, List.set_cons_zero]) | (refine wpQuiet_load 40 (.tmp 25) rfl (ad.add (j * 22)) rfl (ev p) (fun w' h => LP.out w' (bel_undrew h)) _ rfl rfl ?_; simp only [List.set_cons_succ, List.set_cons_zero]) | (refine wpQuiet_load 40 (.tmp 5) rfl ⟨wr.heap.size, 0, none⟩ rfl (ev e) (fun w' h => LE.out w' (bel_undrew h)) _ rfl rfl ?_; simp only [List.set_cons_succ, List.set_cons_zero]) | (go_big_quiet_step ((intro hb; rfl))); refine wpQuiet_nil ?_)
            refine wpG_call _ rfl rfl 22 _ (fun w => rfl) ?_
            refine calls_as (args' := #[ev p, ev e]) (by simp [Act.eval]) ?_
            refine (KO.out _).mono ?_
            rintro z w6 ⟨rfl, hb6⟩
            refine ⟨_, rfl, hb6, ?_⟩
            simp only [Act.put, List.setIfInBounds_toArray, List.set_cons_succ, List.set_cons_zero]
            iterate 3 (refine wpG_still _ rfl rfl ?_; go_big_quiet_step ((intro hb; rfl)); refine wpQuiet_nil ?_)
            refine wpG_nil ?_
            go_wp2
            go_ret
            exact ⟨by rw [HF.out]; rfl, BW5.out.trans ((bel_undrew hb6).mono BW5.out.size)⟩
    · have hle : i = n := by omega
      have HF : Hid (r = true) := Lib.hid (by
        have := HT.out
        rw [hle, HNN.out, List.drop_length] at this
        rw [← this]; rfl)
      clear hle HT
      go_wp2
      go_ret
      exact ⟨by rw [HF.out]; rfl, HB1.out.trans (HK.out.toBelow HB1.out.size (fun k h e => by omega))⟩
end
section
open Go.RowKit
set_option maxRecDepth 100000
set_option maxHeartbeats 4000000
set_option linter.unusedVariables false
theorem run_appS {w : World} {B : Nat} {v : Value} {l : List UInt8} (s : List UInt8) (hown : WinB w B 5 v l) (hb : l.length + s.length ≤ 140737488355328) (hB : B ≤ w.heap.size) (ty : TypeId) :
    ∃ v' w', (Builtin.append_ #[22, 9] ty #[v, .string (bstr s)]).run Tryz.prog w = .ok v' w' ∧ WinB w' B 5 v' (l ++ s) ∧ Kp (fun k => v.ownBlock = some k) w w' ∧ (v'.ownBlock = v.ownBlock ∨ v'.ownBlock = some w.heap.size) := by
  have hsz : (bstr s).size = s.length := bstr_size s
  have hcells : byteCells (bstr s) = bvs s := by
    unfold byteCells
    show s.toArray.toList.map _ = _
    simp [bvs, bv]
  have hs : Src Tryz.prog 1 9 (.string (bstr s)) s.length (bvs s) w := by
    have := Src.ofString (P := Tryz.prog) (w := w) Tryz.underlying9 (bstr s)
    rwa [hsz, hcells] at this
  obtain ⟨v', w', h1, h2, h3, h4⟩ := run_appW (P := Tryz.prog) (w := w) B 22 9 ty 5 (.int .u8 0) 1 1 Tryz.underlying22 Tryz.info5 rfl (by decide) v l.length (bvs l) hown (.string (bstr s)) s.length (bvs s) hs (by omega) (by unfold maxLen; omega) hB
  refine ⟨v', w', h1, ?_, h3, h4⟩
  have : Win w' B 5 1 v' (l.length + s.length) (bvs l ++ bvs s) := h2
  rw [← bvs_append, ← List.length_append] at this
  exact this
theorem run_appOp {P : Program} {o : Oper} {a : Act} {w w' : World} (s x : Operand) (t tx : TypeId) (ho : o.op = .call { callee := .builtin .append, args := #[s, x], argTypes := #[t, tx] }) (vs vx v : Value) (hs : a.eval s = vs) (hx : a.eval x = vx)
    (hr : (Builtin.append_ #[t, tx] o.type #[vs, vx]).run P w = .ok v w') : (execOp (Act.eval a) o).run P w = .ok (.value v) w' := by
  simp [execOp, ho, resolve, invoke, builtin, hs, hx, hr, Result.andThen]
theorem badE_any (e : En) (hs : e.name.length ≤ 1048576) (w : World) (hz : Gz w) :
    Calls Tryz.prog 90 #[ev e] w fun z w' => z = .returned (.bool (!(okE e))) ∧ Below w.heap.size w w' := by
  obtain ⟨W0, hW0⟩ : ∃ W0, W0 = w.alloc (.cells (ecell e).toArray 40) := ⟨_, rfl⟩
  have hb0 : Below w.heap.size w W0 := by rw [hW0]; exact (Below.refl _ _).alloc (Nat.le_refl _) _
  have r0 : W0.heap[w.heap.size]? = some (.cells (ecell e).toArray 40 (0, 0)) := by rw [hW0]; exact heap_alloc_new _ _
  have h0 : W0.cell? ⟨w.heap.size, 0, none⟩ = some (.int .i64 e.mode) := by rw [cell_of_row _ _ _ _ _ _ r0]; rfl
  have h1 : ∀ w', Below W0.heap.size W0 w' → w'.cell? ⟨w.heap.size, 1, none⟩ = some (.string (bstr e.name)) := fun w' h => by
    rw [cell_of_row _ _ _ _ _ _ ((h.block _ (Array.getElem?_eq_some_iff.1 r0).1).trans r0)]; rfl
  have km := mode_any e.mode W0 (hz.below hb0)
  have kn := fun w' => named_any e.name w' (by omega)
  obtain ⟨m, hm⟩ : ∃ m, m = e.mode := ⟨_, rfl⟩
  obtain ⟨s, hse⟩ : ∃ s, s = e.name := ⟨_, rfl⟩
  have HO : Hid (okE e = (!(modeD m == []) && namedI s)) := Lib.hid (by unfold okE; rw [hm, hse])
  rw [← hm] at h0 km
  rw [← hse] at h1 hs kn
  obtain ⟨d, hd⟩ : ∃ d, d = modeD m := ⟨_, rfl⟩
  rw [← hd] at km HO
  obtain ⟨p, hp⟩ : ∃ p, p = namedI s := ⟨_, rfl⟩
  rw [← hp] at kn HO
  have HW0 := Lib.hid hW0; have HB0 := Lib.hid hb0; have H1 := Lib.hid h1
  clear hW0 hb0 r0 hm hse hz h1 hd hp
  by_cases hde : d = []
  · have t : d.isEmpty = true := by rw [hde]; rfl
    have HE : Hid ((d == []) = true) := Lib.hid (by rw [hde]; rfl)
    subst hde
    go_enter Tryz.func90, Tryz.ntmps90
    go_upto_region 1 with fail
    rw [← HW0.out]
    go_wp2_with (go_at_call 91; (with_reducible refine km.mono ?_); rintro e w1 ⟨rfl, hb1⟩)
    go_ret
    exact ⟨by rw [HO.out]; rfl, HB0.out.trans (hb1.mono HB0.out.size)⟩
  · have t : d.isEmpty = false := by simpa using hde
    have HE : Hid ((d == []) = false) := Lib.hid (by simpa using hde)
    clear hde
    cases p with
    | false =>
      go_enter Tryz.func90, Tryz.ntmps90
      go_upto_region 1 with fail
      rw [← HW0.out]
      go_wp2_with (first
        | (go_at_call 91; (with_reducible refine km.mono ?_); rintro e w1 ⟨rfl, hb1⟩; have c1 := H1.out w1 hb1)
        | (go_at_call 78; (with_reducible refine (kn _).mono ?_); rintro e w2 ⟨rfl, rfl⟩))
      go_ret
      exact ⟨by rw [HO.out, HE.out]; rfl, HB0.out.trans (hb1.mono HB0.out.size)⟩
    | true =>
      go_enter Tryz.func90, Tryz.ntmps90
      go_upto_region 1 with fail
      rw [← HW0.out]
      go_wp2_with (first
        | (go_at_call 91; (with_reducible refine km.mono ?_); rintro e w1 ⟨rfl, hb1⟩; have c1 := H1.out w1 hb1)
        | (go_at_call 78; (with_reducible refine (kn _).mono ?_); rintro e w2 ⟨rfl, rfl⟩))
      go_ret
      exact ⟨by rw [HO.out, HE.out]; rfl, HB0.out.trans (hb1.mono HB0.out.size)⟩
theorem idxE_any (l : List En) (ha : EAll l) (hs : ∀ e ∈ l, e.name.length ≤ 1048576) (hn : l.length < 100000) (A : Option Addr) (cap : Nat) (w : World) (hz : Gz w) (hA : Sl w A (ecs l)) :
    Calls Tryz.prog 117 #[.slice A l.length cap, .func (.func 90) #[] #[]] w fun z w' => ∃ i : Int, z = .returned (.int .i64 i) ∧ -1 ≤ i ∧ i ≤ 100000 ∧ decide (0 ≤ i) = !(l.all okE) ∧ Below w.heap.size w w' := by
  obtain ⟨n, hnn⟩ : ∃ n, n = l.length := ⟨_, rfl⟩
  rw [← hnn] at hn ⊢
  have HA := Lib.hid hA; have HNN := Lib.hid hnn; have HAL := Lib.hid ha; have HS := Lib.hid hs; have HZ := Lib.hid hz
  clear hA hnn ha hs hz
  go_enter Tryz.func117, Tryz.ntmps117
  go_wp2
  go_loopw [8] (fun t8 wr => ∃ i : Nat, t8 = .int .i64 (i : Int) ∧ i ≤ n ∧ Hid ((l.take i).all okE = true) ∧ Below w.heap.size w wr) (fun t8 _ => (n - intOf t8).toNat)
  case atStart => exact ⟨0, rfl, by omega, Lib.hid rfl, Below.refl _ _⟩
  case round =>
    obtain ⟨i, rfl, hi, HT, hbw⟩ := hrel
    by_cases hin : i < n
    · have hil : i < l.length := by rw [← HNN.out]; exact hin
      obtain ⟨ad, hA1, hse⟩ := Sl.ent HA.out HAL.out hil
      subst hA1
      obtain ⟨e, hee⟩ : ∃ e, e = gtE l i := ⟨_, rfl⟩
      have e20 : e.id.length = 20 := by rw [hee]; exact HAL.out _ (gtE_mem hil)
      have esz : e.name.length ≤ 1048576 := by rw [hee]; exact HS.out _ (gtE_mem hil)
      rw [← hee] at hse
      have lx := load_ent e20 (hse.below hbw)
      have kb := badE_any e esz wr (HZ.out.below hbw)
      obtain ⟨q, hq⟩ : ∃ q, q = okE e := ⟨_, rfl⟩
      rw [← hq] at kb
      have ge : l[i]? = some e := by
        rw [hee]
        unfold gtE
        rw [List.getD_eq_getElem?_getD, List.getElem?_eq_getElem hil]; rfl
      have HQ := Lib.hid hq; have GE := Lib.hid ge
      clear e20 esz hse hee hq ge hil
      cases q with
      | true =>
        simp only [Bool.not_true] at kb
        have HT2 : Hid ((l.take (i + 1)).all okE = true) := Lib.hid (by
          rw [List.take_add_one, List.all_append, HT.out, GE.out]
          simp [← HQ.out])
        go_wp2_with (first
          | (refine wpList_loadG 40 (.tmp 14) rfl (ad.add (i * 22)) rfl _ lx rfl ?_)
          | (go_at_call 90; (with_reducible refine kb.mono ?_); rintro z w1 ⟨rfl, hb1⟩))
        go_roundw
        case rel => exact ⟨i + 1, by simp, by omega, HT2, hbw.trans (hb1.mono hbw.size)⟩
        case measure => simp only [intOf]; omega
      | false =>
        simp only [Bool.not_false] at kb
        have HF : Hid (l.all okE = false) := Lib.hid (by
          cases hq : l.all okE with
          | false => rfl
          | true =>
            have := List.all_eq_true.1 hq _ (List.mem_of_getElem? GE.out)
            rw [← HQ.out] at this
            cases this)
        go_wp2_with (first
          | (refine wpList_loadG 40 (.tmp 14) rfl (ad.add (i * 22)) rfl _ lx rfl ?_)
          | (go_at_call 90; (with_reducible refine kb.mono ?_); rintro z w1 ⟨rfl, hb1⟩))
        go_ret
        exact ⟨(i : Int), rfl, by omega, by omega, by rw [HF.out, decide_eq_true (by omega)]; rfl, hbw.trans (hb1.mono hbw.size)⟩
    · have hle : i = n := by omega
      have HF : Hid (l.all okE = true) := Lib.hid (by
        have := HT.out
        rwa [hle, HNN.out, List.take_length] at this)
      clear hle HT
      go_wp2
      go_ret
      exact ⟨-1, rfl, by omega, by omega, by rw [HF.out]; rfl, hbw⟩
theorem contE_any (l : List En) (ha : EAll l) (hs : ∀ e ∈ l, e.name.length ≤ 1048576) (hn : l.length < 100000) (A : Option Addr) (cap : Nat) (w : World) (hz : Gz w) (hA : Sl w A (ecs l)) :
    Calls Tryz.prog 89 #[.slice A l.length cap, .func (.func 90) #[] #[]] w fun z w' => z = .returned (.bool (!(l.all okE))) ∧ Below w.heap.size w w' := by
  have k1 := idxE_any l ha hs hn A cap w hz hA
  obtain ⟨n, hnn⟩ : ∃ n, n = l.length := ⟨_, rfl⟩
  rw [← hnn] at k1 ⊢
  clear ha hs hz hA hn hnn
  go_enter Tryz.func89, Tryz.ntmps89
  go_wp2_with (go_at_call 117; (with_reducible refine k1.mono ?_); rintro z w1 ⟨i, rfl, hi0, hi1, hi, hb1⟩; have HI := Lib.hid hi; clear hi)
  go_ret
  exact ⟨by rw [← HI.out]; rfl, hb1⟩
theorem enB_len {e : En} (h : okE e = true) (h20 : e.id.length = 20) : (enB e).length ≤ 128 := by
  have := mode_len e.mode
  have := (named_no (okE_iff.1 h).2).2
  simp only [enB, List.length_append, List.length_cons]
  omega
theorem tree_le : ∀ (l : List En), (∀ e ∈ l, okE e = true ∧ e.id.length = 20) → (treeB l).length ≤ l.length * 128
  | [], _ => by simp [treeB]
  | e :: l, h => by
    have ih := tree_le l (fun x hx => h x (List.mem_cons_of_mem _ hx))
    have := enB_len (h e (by simp)).1 (h e (by simp)).2
    simp only [treeB, List.flatMap_cons, List.length_append, List.length_cons] at *
    omega
theorem head_str (d nm : List UInt8) : (bstr d ++ ⟨#[32]⟩ ++ bstr nm ++ ⟨#[0]⟩ : ByteArray) = bstr (d ++ 32 :: (nm ++ [0])) := by
  apply ByteArray.ext
  simp
theorem tree_take {l : List En} {i : Nat} {e : En} (h : l[i]? = some e) : treeB (l.take (i + 1)) = treeB (l.take i) ++ (modeD e.mode ++ 32 :: (e.name ++ [0])) ++ e.id := by
  rw [List.take_add_one, h]
  simp [treeB, enB]
/-- bytes and a fault handed out; without a place no room -/
def OutZ (l : List UInt8) (e : Nat) (w : World) (z : Ending) (w' : World) : Prop := (∃ A c, z = .returned (.tuple #[.slice A l.length c, .int .i64 (e : Int)]) ∧ l.length ≤ c ∧ (A = none → c = 0) ∧ Bs w' A l) ∧ Below w.heap.size w w'
theorem encTr_any (l : List En) (ha : EAll l) (hs : ∀ e ∈ l, e.name.length ≤ 1048576) (hn : l.length < 100000) (A : Option Addr) (cap : Nat) (w : World) (hz : Gz w) (hA : Sl w A (ecs l)) :
    Calls Tryz.prog 46 #[.slice A l.length cap] w (OutZ (encTr l).1 (encTr l).2 w) := by
  have kc := contE_any l ha hs hn A cap w hz hA
  have ko := fun w' (h : Below w.heap.size w w') => ordered_any l ha hs hn A cap w' (hA.below h)
  obtain ⟨n, hnn⟩ : ∃ n, n = l.length := ⟨_, rfl⟩
  by_cases h1 : 512 < l.length
  · have HE : Hid (encTr l = ([], 1)) := Lib.hid (if_pos (.inl h1))
    rw [← hnn] at hn h1 ⊢
    have d1 : decide ((512 : Int) < (n : Int)) = true := decide_eq_true (by omega)
    clear kc ko hnn ha hs hz hA
    go_enter Tryz.func46, Tryz.ntmps46
    go_wp2
    go_ret2
    rw [HE.out]
    exact ⟨⟨none, 0, rfl, Nat.le_refl _, fun _ => rfl, Sl.nil _ _⟩, Below.refl _ _⟩
  cases hq : l.all okE with
  | false =>
    have HE : Hid (encTr l = ([], 1)) := Lib.hid (if_pos (.inr hq))
    rw [hq] at kc
    simp only [Bool.not_false] at kc
    rw [← hnn] at hn h1 kc ⊢
    have d1 : decide ((512 : Int) < (n : Int)) = false := decide_eq_false (by omega)
    clear ko hnn ha hs hz hA hq
    go_enter Tryz.func46, Tryz.ntmps46
    go_wp2_with (go_at_call 89; (with_reducible refine kc.mono ?_); rintro z w1 ⟨rfl, hb1⟩)
    go_ret2
    rw [HE.out]
    exact ⟨⟨none, 0, rfl, Nat.le_refl _, fun _ => rfl, Sl.nil _ _⟩, hb1⟩
  | true =>
    have hc1 : ¬ (512 < l.length ∨ l.all okE = false) := by
      rintro (h | h)
      · exact h1 h
      · rw [hq] at h; cases h
    rw [hq] at kc
    simp only [Bool.not_true] at kc
    cases hr : ordE [] l with
    | false =>
      have HE : Hid (encTr l = ([], 2)) := Lib.hid (by unfold encTr; rw [if_neg hc1, if_pos hr])
      rw [hr] at ko
      rw [← hnn] at hn h1 kc ko ⊢
      have d1 : decide ((512 : Int) < (n : Int)) = false := decide_eq_false (by omega)
      clear hnn ha hs hz hA hq hr hc1
      go_enter Tryz.func46, Tryz.ntmps46
      go_wp2_with (first
        | (go_at_call 89; (with_reducible refine kc.mono ?_); rintro z w1 ⟨rfl, hb1⟩)
        | (go_at_call 79; (with_reducible refine (ko _ hb1).mono ?_); rintro z w2 ⟨rfl, hb2⟩))
      go_ret2
      rw [HE.out]
      exact ⟨⟨none, 0, rfl, Nat.le_refl _, fun _ => rfl, Sl.nil _ _⟩, hb1.trans (hb2.mono hb1.size)⟩
    | true =>
      rw [hr] at ko
      have hall : ∀ e ∈ l, okE e = true ∧ e.id.length = 20 := fun e he => ⟨List.all_eq_true.1 hq e he, ha e he⟩
      have htl := tree_le l hall
      have HE : Hid (encTr l = if 16384 < (treeB l).length then ([], 5) else (treeB l, 0)) := Lib.hid (by unfold encTr; rw [if_neg hc1, if_neg (by rw [hr]; decide)])
      have tbd : ∀ i, (treeB (l.take i)).length ≤ 65536 := fun i => by
        have := tree_le (l.take i) (fun e he => hall e (List.mem_of_mem_take he))
        rw [List.length_take] at this
        omega
      rw [← hnn] at hn h1 kc ko ⊢
      have d1 : decide ((512 : Int) < (n : Int)) = false := decide_eq_false (by omega)
      have HA := Lib.hid hA; have HNN := Lib.hid hnn; have HAL := Lib.hid ha; have HALL := Lib.hid hall; have HZ := Lib.hid hz; have TBD := Lib.hid tbd
      clear hA hnn ha hs hz hq hr hc1 hall htl tbd
      go_enter Tryz.func46, Tryz.ntmps46
      go_upto_block 0 with (first
        | (go_at_call 89; (with_reducible refine kc.mono ?_); rintro z w1 ⟨rfl, hb1⟩)
        | (go_at_call 79; (with_reducible refine (ko _ hb1).mono ?_); rintro z w2 ⟨rfl, hb2⟩))
      have B2 := Lib.hid (hb1.trans (hb2.mono hb1.size))
      clear hb1 hb2
      go_step
      go_loopw [4, 19] (fun t4 t19 wr => ∃ i : Nat, t19 = .int .i64 (i : Int) ∧ i ≤ n ∧ Hid (WinB wr w.heap.size 5 t4 (treeB (l.take i))) ∧ Hid (Below w.heap.size w wr)) (fun _ t19 _ => (n - intOf t19).toNat)
      case atStart => exact ⟨0, rfl, by omega, Lib.hid (Win.nil _ _ _ _), B2⟩
      case round =>
        obtain ⟨i, rfl, hi, HW, HBW⟩ := hrel
        by_cases hin : i < n
        · have hil : i < l.length := by rw [← HNN.out]; exact hin
          obtain ⟨ad, hA1, hse⟩ := Sl.ent HA.out HAL.out hil
          subst hA1
          obtain ⟨e, hee⟩ : ∃ e, e = gtE l i := ⟨_, rfl⟩
          have hem : e ∈ l := by rw [hee]; exact gtE_mem hil
          have ge : l[i]? = some e := by
            rw [hee]
            unfold gtE
            rw [List.getD_eq_getElem?_getD, List.getElem?_eq_getElem hil]; rfl
          obtain ⟨eok, e20⟩ := HALL.out e hem
          have esz := (named_no (okE_iff.1 eok).2).2
          rw [← hee] at hse
          have lx := load_ent e20 (hse.below HBW.out)
          have zi := Lib.hid (infoEn e20); have zs := Lib.hid (zen_size e20); have zo := Lib.hid (ecell_one e)
          have TT := Lib.hid (tree_take ge)
          have E20 := Lib.hid e20
          clear hse hee hem ge eok hil
          go_upto_region 9 with (first
            | (refine wpList_loadG 40 (.tmp 21) rfl (ad.add (i * 22)) rfl _ lx rfl ?_)
            | (simp only [zenlit]; refine wpList_store_row rfl 40 (.tmp 6) (.tmp 22) rfl wr.heap.size (ecell e).toArray rfl rfl 40 zen (heap_alloc_new _ _) zi.out zs.out zo.out ?_))
          obtain ⟨r5, b5⟩ := new_set wr 40 zen (ecell e).toArray
          obtain ⟨W5, hW5⟩ : ∃ W5, W5 = (wr.alloc (.cells zen 40)).setRow wr.heap.size (ecell e).toArray := ⟨_, rfl⟩
          rw [← hW5] at r5 b5
          try simp only [Act.put]
          rw [← hW5]
          have S5 : Sl W5 (some ⟨wr.heap.size, 0, none⟩) (ecell e) := Sl.of_block r5 (fun j v hj => by simpa using hj)
          have hno : ¬ u4.ownBlock = some wr.heap.size := fun h => by have := (HW.out.block _ h).2; omega
          obtain ⟨m, hm⟩ : ∃ m, m = e.mode := ⟨_, rfl⟩
          obtain ⟨nm, hnm⟩ : ∃ nm, nm = e.name := ⟨_, rfl⟩
          obtain ⟨d, hd⟩ : ∃ d, d = modeD m := ⟨_, rfl⟩
          have hd6 : d.length ≤ 6 := by rw [hd]; exact mode_len m
          have cm := en_mode S5
          have cn := en_name S5
          rw [add_plain, Nat.zero_add] at cn
          rw [← hm] at cm
          rw [← hnm] at cn esz
          rw [← hm, ← hnm, ← hd] at TT
          have LM := Lib.hid (fun w' (h : Kp (fun k => u4.ownBlock = some k) W5 w') => load_oneC (T := 3) (fun w => by kernel_rfl) (h.cell cm hno))
          have LN := Lib.hid (fun w' (h : Kp (fun k => u4.ownBlock = some k) W5 w') => load_oneC (T := 9) (fun w => by kernel_rfl) (h.cell cn hno))
          have KM : Hid (∀ w', Below W5.heap.size W5 w' → Calls Tryz.prog 91 #[.int .i64 m] w' fun z w'' => z = .returned (.string (bstr d)) ∧ Below w'.heap.size w' w'') := Lib.hid (fun w' h => by
            rw [hd]
            exact mode_any m w' (HZ.out.below (HBW.out.trans ((b5.trans (h.mono b5.size)).mono HBW.out.size))))
          have W5W := Lib.hid (HW.out.below b5)
          have SI := Lib.hid (S5.drop 2)
          have B5 := Lib.hid b5; have HNO := Lib.hid hno
          have tb1 := TBD.out i
          have sz5 := (Array.getElem?_eq_some_iff.1 r5).1
          clear r5 b5 hW5 S5 lx zi zs zo cm cn hm hnm hd hno
          refine wp_region_plan [(0, false), (1, false), (2, false), (5, false), (6, false), (3, true), (4, false), (7, false), (8, false), (9, true), (10, false)] (fun u v => Kp (fun k => u4.ownBlock = some k) u v) (fun w => Kp.refl _ _) (fun _ _ _ h k => h.trans k) (by kernel_rfl) (by kernel_rfl) ?_
          iterate 5 (refine wpG_still _ rfl rfl ?_; first | (refine wpQuiet_load 3 (.tmp 24) rfl ⟨wr.heap.size, 0, none⟩ rfl (.int .i64 m) (fun w' h => LM.out w' (kp_ofDrew h)) _ rfl rfl ?_; simp only [List.set_cons_succ, List.set_cons_zero]) | (refine wpQuiet_load 9 (.tmp 28) rfl ⟨wr.heap.size, 1, none⟩ rfl (.string (bstr nm)) (fun w' h => LN.out w' (kp_ofDrew h)) _ rfl rfl ?_; simp only [List.set_cons_succ, List.set_cons_zero]) | (go_big_quiet_step ((intro hb; rfl))); refine wpQuiet_nil ?_)
          refine wpG_call _ rfl rfl 91 _ (fun w => rfl) ?_
          refine calls_as (args' := #[.int .i64 m]) (by simp [Act.eval]) ?_
          refine (KM.out _ (Below.refl _ _).drew).mono ?_
          rintro z w6 ⟨rfl, hb6⟩
          refine ⟨_, rfl, Kp.ofBelow hb6, ?_⟩
          simp only [Act.put, List.setIfInBounds_toArray, List.set_cons_succ, List.set_cons_zero]
          have b56 := bel_undrew hb6
          iterate 3 (refine wpG_still _ rfl rfl ?_; go_big_quiet_step ((intro hb; first | rfl | (rw [if_neg (by simp; omega)]; exact ⟨rfl, rfl⟩))); refine wpQuiet_nil ?_)
          have hl9 : (treeB (l.take i)).length + (d ++ 32 :: (nm ++ [0])).length ≤ 140737488355328 := by
            simp only [List.length_append, List.length_cons, List.length_nil]; omega
          obtain ⟨v7, w7, hrun, hw7, hk7, ho7⟩ := run_appS (d ++ 32 :: (nm ++ [0])) (W5W.out.below b56) hl9 (by have := HBW.out.size; have := B5.out.size; have := b56.size; omega) 22
          refine wpG_value _ rfl rfl v7 (run_appOp (.tmp 23) (.tmp 31) 22 9 rfl u4 _ _ rfl (congrArg Value.string (head_str d nm)) hrun) hk7 ?_
          simp only [Act.put, List.setIfInBounds_toArray, List.set_cons_succ, List.set_cons_zero]
          iterate 1 (refine wpG_still _ rfl rfl ?_; go_big_quiet_step ((intro hb; rfl)); refine wpQuiet_nil ?_)
          refine wpG_nil ?_
          have HW7 := Lib.hid hw7
          have bw7 : Below w.heap.size w w7 := (HBW.out.trans ((B5.out.trans (b56.mono B5.out.size)).mono HBW.out.size)).trans (hk7.toBelow (by have := HBW.out.size; have := B5.out.size; have := b56.size; omega) (fun k hk h => by have := (HW.out.block _ h).1; omega))
          have BW7 := Lib.hid bw7
          have SI7 : Bs w7 (some ⟨wr.heap.size, 2, none⟩) e.id := (Sl.below (show Sl W5 (some ⟨wr.heap.size, 2, none⟩) (bvs e.id) from by have := SI.out; rw [Nat.zero_add] at this; exact this) b56).kp hk7 (fun ad e h => by injection e with e; subst e; exact HNO.out h)
          have hsrc := Lib.hid (srcOf (P := Tryz.prog) (size := 1) (m := 20) (c := 20) Tryz.underlying22 (by decide) (by rw [bvs_length, E20.out]) SI7 (bvs_one _))
          have hl10 : (treeB (l.take i) ++ (d ++ 32 :: (nm ++ [0]))).length ≤ 70000 := by
            simp only [List.length_append, List.length_cons, List.length_nil]; omega
          have HL10 := Lib.hid hl10
          have HW0 := Lib.hid (by have := bw7.size; omega : w.heap.size ≤ w7.heap.size)
          clear hrun hw7 hk7 ho7 hb6 b56 hl9 hl10 bw7 SI7
          go_wp2_with (refine wpList_appW rfl (.tmp 33) (.tmp 35) 22 22 rfl w.heap.size 5 (.int .u8 0) 1 1 Tryz.underlying22 Tryz.info5 rfl (by decide) v7 _ _ rfl HW7.out (.slice (some ⟨wr.heap.size, 2, none⟩) 20 20) 20 (bvs e.id) rfl hsrc.out (by have := HL10.out; omega) (by have := HL10.out; unfold maxLen; omega) HW0.out ?_
                       intro v8 w8 hw8 hk8 ho8)
          have HW8 : Hid (WinB w8 w.heap.size 5 v8 (treeB (l.take (i + 1)))) := Lib.hid (by
            rw [TT.out]
            have h : Win w8 w.heap.size 5 1 v8 ((treeB (l.take i) ++ (d ++ 32 :: (nm ++ [0]))).length + 20) (bvs (treeB (l.take i) ++ (d ++ 32 :: (nm ++ [0]))) ++ bvs e.id) := hw8
            have hlen : ((treeB (l.take i) ++ (d ++ 32 :: (nm ++ [0]))) ++ e.id).length = (treeB (l.take i) ++ (d ++ 32 :: (nm ++ [0]))).length + 20 := by rw [List.length_append (bs := e.id), E20.out]
            show Win w8 w.heap.size 5 1 v8 ((treeB (l.take i) ++ (d ++ 32 :: (nm ++ [0]))) ++ e.id).length (bvs ((treeB (l.take i) ++ (d ++ 32 :: (nm ++ [0]))) ++ e.id))
            rw [hlen, bvs_append]
            exact h)
          have BW8 := Lib.hid (BW7.out.trans (hk8.toBelow HW0.out (fun k hk h => by have := (HW7.out.block _ h).1; omega)))
          clear hw8 hk8 ho8
          go_roundw
          case rel => exact ⟨i + 1, by simp, by omega, HW8, BW8⟩
          case measure => simp only [intOf]; omega
        · have hle : i = n := by omega
          have HWF : Hid (WinB wr w.heap.size 5 u4 (treeB l)) := Lib.hid (by
            have := HW.out
            rwa [hle, HNN.out, List.take_length] at this)
          obtain ⟨T, hT⟩ : ∃ T, T = treeB l := ⟨_, rfl⟩
          rw [← hT] at HWF HE
          obtain ⟨nt, hnt⟩ : ∃ nt, nt = T.length := ⟨_, rfl⟩
          rw [← hnt] at HE
          obtain ⟨At, ct, rfl, hct, hmt, hst⟩ := HWF.out.readsN hnt.symm
          have HST := Lib.hid hst
          have HZ0 : Hid (At = none → nt = 0) := Lib.hid (fun h => by
            subst h
            by_cases h0 : nt = 0
            · exact h0
            · obtain ⟨g, off, cp, he, _⟩ := Win.form HWF.out (by omega)
              cases he)
          have k2 := clipB At nt ct hct wr
          have hnl : nt ≤ 65536 := by
            have := TBD.out n
            rw [HNN.out, List.take_length, ← hT, ← hnt] at this
            exact this
          have HNT := Lib.hid hnt
          clear hle HW HWF hst hT hmt hnt
          by_cases hbig : 16384 < nt
          · have HX := HE.out
            rw [if_pos hbig] at HX
            have HX2 := Lib.hid HX
            have q1 : decide ((16384 : Int) < (nt : Int)) = true := decide_eq_true (by omega)
            clear HX hbig
            go_wp2
            go_ret2
            rw [HX2.out]
            exact ⟨⟨none, 0, rfl, Nat.le_refl _, fun _ => rfl, Sl.nil _ _⟩, HBW.out⟩
          · have HX := HE.out
            rw [if_neg hbig] at HX
            have HX2 := Lib.hid HX
            have q1 : decide ((16384 : Int) < (nt : Int)) = false := decide_eq_false (by omega)
            clear HX hbig
            go_wp2_with (go_at_call 51; (with_reducible refine k2.mono ?_); rintro z w9 ⟨rfl, rfl⟩)
            go_ret2
            rw [HX2.out]
            exact ⟨⟨At, nt, by rw [← HNT.out]; rfl, Nat.le_of_eq HNT.out.symm, HZ0.out, HST.out⟩, HBW.out⟩
end
section
open Go.RowKit
set_option maxRecDepth 100000
set_option maxHeartbeats 2000000
set_option linter.unusedVariables false
theorem wpList_arrp {P : Program} {ops : Array Oper} {rest : List Oper} {o : Oper} {a : Act} {w : World} {Q : Exit → Act → World → Prop} (hg : o.guard = none) (T e : TypeId) (n : Nat) (x : Operand) (ho : o.op = .sliceToArrayPointer T x) (hT : P.underlying T = some (.array n e)) (A : Option Addr) (m c : Nat) (hx : a.eval x = .slice A m c) (hn : n ≤ m)
    (h : wpList P ops Q rest (a.put o.dst (.pointer A)) w) : wpList P ops Q (o :: rest) a w := by
  refine wpList_plain hg fun K hK => ?_
  have hr : (Instr.arrayAt T (.slice A m c)).run P w = .ok (.pointer A) w := by
    have hnl : ¬ m < n := by omega
    simp [Instr.arrayAt, Sem.run_bind, run_underlying hT, Result.andThen, hnl]
  unfold Oper.wp
  simp [execOp, ho, hx, hr, Result.andThen]
  exact hK _ _ h
theorem infoO3 : (Tryz.prog.info? 40).map (fun i => (i.zero, i.size, i.bytes)) = some (some (.agg zen), 22, 48) := by kernel_rfl
theorem builtO20 (m : Int) (s : ByteArray) (a0 a1 a2 a3 a4 a5 a6 a7 a8 a9 b0 b1 b2 b3 b4 b5 b6 b7 b8 b9 : UInt8) : Tryz.prog.built 40 [(0, .int .i64 m), (1, .string s), (2, idv [a0, a1, a2, a3, a4, a5, a6, a7, a8, a9, b0, b1, b2, b3, b4, b5, b6, b7, b8, b9])] = some (.int .i64 m :: .string s :: bvs [a0, a1, a2, a3, a4, a5, a6, a7, a8, a9, b0, b1, b2, b3, b4, b5, b6, b7, b8, b9] : List Value).toArray := by kernel_rfl
theorem builtO (e : En) (h : e.id.length = 20) : Tryz.prog.built 40 [(0, .int .i64 e.mode), (1, .string (bstr e.name)), (2, idv e.id)] = some (ecell e).toArray := by
  obtain ⟨m, s, id⟩ := e
  dsimp only at h ⊢
  match id, h with
  | [a0, a1, a2, a3, a4, a5, a6, a7, a8, a9, b0, b1, b2, b3, b4, b5, b6, b7, b8, b9], _ => exact builtO20 m (bstr s) a0 a1 a2 a3 a4 a5 a6 a7 a8 a9 b0 b1 b2 b3 b4 b5 b6 b7 b8 b9
theorem wpList_buildO3 {ops : Array Oper} {rest : List Oper} {o : Oper} {a : Act} {w : World} {Q : Exit → Act → World → Prop} (hg : o.guard = none) (x y z : Operand) (ho : o.op = .build 40 #[(0, x), (1, y), (2, z)])
    (e : En) (h20 : e.id.length = 20) (hx : a.eval x = .int .i64 e.mode) (hy : a.eval y = .string (bstr e.name)) (hz : a.eval z = idv e.id) (h : wpList Tryz.prog ops Q rest (a.put o.dst (ev e)) w) : wpList Tryz.prog ops Q (o :: rest) a w := by
  refine wpList_plain hg fun K hK => ?_
  have hr := run_build (P := Tryz.prog) w 40 #[(0, .int .i64 e.mode), (1, .string (bstr e.name)), (2, idv e.id)] _ (builtO e h20)
  unfold Oper.wp
  simp [execOp, ho, hx, hy, hz, hr, Result.andThen]
  exact hK _ _ h
theorem fillO20 (m : Int) (s : ByteArray) (a0 a1 a2 a3 a4 a5 a6 a7 a8 a9 b0 b1 b2 b3 b4 b5 b6 b7 b8 b9 : UInt8) : Instr.fill (fun i => some (i * 22, 22)) ((Array.range (1 * 22)).map ((Value.agg zen).cells[· % (Value.agg zen).cells.size]!)) [(0, .agg (.int .i64 m :: .string s :: bvs [a0, a1, a2, a3, a4, a5, a6, a7, a8, a9, b0, b1, b2, b3, b4, b5, b6, b7, b8, b9] : List Value).toArray)] = some (.int .i64 m :: .string s :: bvs [a0, a1, a2, a3, a4, a5, a6, a7, a8, a9, b0, b1, b2, b3, b4, b5, b6, b7, b8, b9] : List Value).toArray := by kernel_rfl
theorem fillO (e : En) (h : e.id.length = 20) : Instr.fill (fun i => some (i * 22, 22)) ((Array.range (1 * 22)).map ((Value.agg zen).cells[· % (Value.agg zen).cells.size]!)) [(0, ev e)] = some (ecell e).toArray := by
  obtain ⟨m, s, id⟩ := e
  dsimp only at h
  match id, h with
  | [a0, a1, a2, a3, a4, a5, a6, a7, a8, a9, b0, b1, b2, b3, b4, b5, b6, b7, b8, b9], _ => exact fillO20 m (bstr s) a0 a1 a2 a3 a4 a5 a6 a7 a8 a9 b0 b1 b2 b3 b4 b5 b6 b7 b8 b9
theorem run_oneO {o : Oper} {a : Act} {w : World} (x : Operand) (ho : o.op = .buildSlice 69 1 #[(0, x)]) (e : En) (h20 : e.id.length = 20) (hx : a.eval x = ev e) :
    (execOp (Act.eval a) o).run Tryz.prog w = .ok (.value (.slice (some ⟨w.heap.size, 0, none⟩) 1 1)) (w.alloc (.cells (ecell e).toArray 40)) := by
  obtain ⟨i, hi, hz, hsize, hby⟩ := info_parts infoO3
  have hr := run_buildSlice (P := Tryz.prog) w 69 40 1 #[(0, ev e)] (ecell e).toArray i _ Tryz.underlying69 hi hz (by rw [hsize]; decide) (by rw [hsize]; decide) (by rw [hsize]; exact fillO e h20)
  simp [execOp, ho, hx, hr, Result.andThen]
theorem wpList_oneO {ops : Array Oper} {rest : List Oper} {o : Oper} {a : Act} {w : World} {Q : Exit → Act → World → Prop} (hg : o.guard = none) (x : Operand) (ho : o.op = .buildSlice 69 1 #[(0, x)]) (e : En) (h20 : e.id.length = 20) (hx : a.eval x = ev e)
    (h : wpList Tryz.prog ops Q rest (a.put o.dst (.slice (some ⟨w.heap.size, 0, none⟩) 1 1)) (w.alloc (.cells (ecell e).toArray 40))) : wpList Tryz.prog ops Q (o :: rest) a w := by
  refine wpList_plain hg fun K hK => ?_
  have hr := run_oneO (w := w) x ho e h20 hx
  unfold Oper.wp
  rw [hr]
  exact hK _ _ h
abbrev WinO (w : World) (B : Nat) (v : Value) (l : List En) : Prop := Win w B 40 22 v l.length (ecs l)
theorem run_appO {w : World} {B : Nat} {v : Value} {l : List En} (hown : WinO w B v l) (A : Option Addr) (c n : Nat) (m : List En) (hn : n = m.length) (m20 : EAll m) (hA : Sl w A (ecs m)) (hb : l.length + m.length ≤ 100000) (hB : B ≤ w.heap.size) (ty : TypeId) :
    ∃ v' w', (Builtin.append_ #[69, 69] ty #[v, .slice A n c]).run Tryz.prog w = .ok v' w' ∧ WinO w' B v' (l ++ m) ∧ Kp (fun k => v.ownBlock = some k) w w' ∧ (v'.ownBlock = v.ownBlock ∨ v'.ownBlock = some w.heap.size) := by
  subst hn
  obtain ⟨v', w', h1, h2, h3, h4⟩ := run_appW (P := Tryz.prog) (w := w) B 69 69 ty 40 (.agg zen) 22 48 Tryz.underlying69 infoO3 rfl (by decide) v l.length (ecs l) hown (.slice A m.length c) m.length (ecs m) (srcOf Tryz.underlying69 (by decide) (ecs_len m m20) hA (ecs_one m)) (by omega) (by unfold maxLen; omega) hB
  refine ⟨v', w', h1, ?_, h3, h4⟩
  have : Win w' B 40 22 v' (l.length + m.length) (ecs l ++ ecs m) := h2
  rw [← ecs_app, ← List.length_append] at this
  exact this
theorem wpList_appO {w : World} {ops : Array Oper} {rest : List Oper} {o : Oper} {a : Act} {Q : Exit → Act → World → Prop} (hgd : o.guard = none) (s x : Operand)
    (ho : o.op = .call { callee := .builtin .append, args := #[s, x], argTypes := #[69, 69] })
    (B : Nat) (v : Value) (l : List En) (hs : a.eval s = v) (hown : WinO w B v l) (A : Option Addr) (c n : Nat) (m : List En) (hn : n = m.length) (m20 : EAll m) (hx : a.eval x = .slice A n c) (hA : Sl w A (ecs m))
    (hb : l.length + m.length ≤ 100000) (hB : B ≤ w.heap.size)
    (h : ∀ v' w', WinO w' B v' (l ++ m) → Kp (fun k => v.ownBlock = some k) w w' → (v'.ownBlock = v.ownBlock ∨ v'.ownBlock = some w.heap.size) → wpList Tryz.prog ops Q rest (a.put o.dst v') w') : wpList Tryz.prog ops Q (o :: rest) a w := by
  refine wpList_plain hgd fun K hK => ?_
  obtain ⟨v', w', hrun, h1, h2, h3⟩ := run_appO hown A c n m hn m20 hA hb hB o.type
  have hr := run_appOp (a := a) s x _ _ ho _ _ _ hs hx hrun
  unfold Oper.wp
  rw [hr]
  exact hK _ _ (h v' w' h1 h2 h3)
theorem infoR3 : (Tryz.prog.info? 80).map (fun i => (i.zero, i.size, i.bytes)) = some (some (.agg zen), 22, 48) := by kernel_rfl
theorem builtR20 (m : Int) (s : ByteArray) (a0 a1 a2 a3 a4 a5 a6 a7 a8 a9 b0 b1 b2 b3 b4 b5 b6 b7 b8 b9 : UInt8) : Tryz.prog.built 80 [(0, .int .i64 m), (1, .string s), (2, idv [a0, a1, a2, a3, a4, a5, a6, a7, a8, a9, b0, b1, b2, b3, b4, b5, b6, b7, b8, b9])] = some (.int .i64 m :: .string s :: bvs [a0, a1, a2, a3, a4, a5, a6, a7, a8, a9, b0, b1, b2, b3, b4, b5, b6, b7, b8, b9] : List Value).toArray := by kernel_rfl
theorem builtR (e : En) (h : e.id.length = 20) : Tryz.prog.built 80 [(0, .int .i64 e.mode), (1, .string (bstr e.name)), (2, idv e.id)] = some (ecell e).toArray := by
  obtain ⟨m, s, id⟩ := e
  dsimp only at h ⊢
  match id, h with
  | [a0, a1, a2, a3, a4, a5, a6, a7, a8, a9, b0, b1, b2, b3, b4, b5, b6, b7, b8, b9], _ => exact builtR20 m (bstr s) a0 a1 a2 a3 a4 a5 a6 a7 a8 a9 b0 b1 b2 b3 b4 b5 b6 b7 b8 b9
theorem wpList_buildR3 {ops : Array Oper} {rest : List Oper} {o : Oper} {a : Act} {w : World} {Q : Exit → Act → World → Prop} (hg : o.guard = none) (x y z : Operand) (ho : o.op = .build 80 #[(0, x), (1, y), (2, z)])
    (e : En) (h20 : e.id.length = 20) (hx : a.eval x = .int .i64 e.mode) (hy : a.eval y = .string (bstr e.name)) (hz : a.eval z = idv e.id) (h : wpList Tryz.prog ops Q rest (a.put o.dst (ev e)) w) : wpList Tryz.prog ops Q (o :: rest) a w := by
  refine wpList_plain hg fun K hK => ?_
  have hr := run_build (P := Tryz.prog) w 80 #[(0, .int .i64 e.mode), (1, .string (bstr e.name)), (2, idv e.id)] _ (builtR e h20)
  unfold Oper.wp
  simp [execOp, ho, hx, hy, hz, hr, Result.andThen]
  exact hK _ _ h
theorem fillR20 (m : Int) (s : ByteArray) (a0 a1 a2 a3 a4 a5 a6 a7 a8 a9 b0 b1 b2 b3 b4 b5 b6 b7 b8 b9 : UInt8) : Instr.fill (fun i => some (i * 22, 22)) ((Array.range (1 * 22)).map ((Value.agg zen).cells[· % (Value.agg zen).cells.size]!)) [(0, .agg (.int .i64 m :: .string s :: bvs [a0, a1, a2, a3, a4, a5, a6, a7, a8, a9, b0, b1, b2, b3, b4, b5, b6, b7, b8, b9] : List Value).toArray)] = some (.int .i64 m :: .string s :: bvs [a0, a1, a2, a3, a4, a5, a6, a7, a8, a9, b0, b1, b2, b3, b4, b5, b6, b7, b8, b9] : List Value).toArray := by kernel_rfl
theorem fillR (e : En) (h : e.id.length = 20) : Instr.fill (fun i => some (i * 22, 22)) ((Array.range (1 * 22)).map ((Value.agg zen).cells[· % (Value.agg zen).cells.size]!)) [(0, ev e)] = some (ecell e).toArray := by
  obtain ⟨m, s, id⟩ := e
  dsimp only at h
  match id, h with
  | [a0, a1, a2, a3, a4, a5, a6, a7, a8, a9, b0, b1, b2, b3, b4, b5, b6, b7, b8, b9], _ => exact fillR20 m (bstr s) a0 a1 a2 a3 a4 a5 a6 a7 a8 a9 b0 b1 b2 b3 b4 b5 b6 b7 b8 b9
theorem run_oneR {o : Oper} {a : Act} {w : World} (x : Operand) (ho : o.op = .buildSlice 72 1 #[(0, x)]) (e : En) (h20 : e.id.length = 20) (hx : a.eval x = ev e) :
    (execOp (Act.eval a) o).run Tryz.prog w = .ok (.value (.slice (some ⟨w.heap.size, 0, none⟩) 1 1)) (w.alloc (.cells (ecell e).toArray 80)) := by
  obtain ⟨i, hi, hz, hsize, hby⟩ := info_parts infoR3
  have hr := run_buildSlice (P := Tryz.prog) w 72 80 1 #[(0, ev e)] (ecell e).toArray i _ Tryz.underlying72 hi hz (by rw [hsize]; decide) (by rw [hsize]; decide) (by rw [hsize]; exact fillR e h20)
  simp [execOp, ho, hx, hr, Result.andThen]
theorem wpList_oneR {ops : Array Oper} {rest : List Oper} {o : Oper} {a : Act} {w : World} {Q : Exit → Act → World → Prop} (hg : o.guard = none) (x : Operand) (ho : o.op = .buildSlice 72 1 #[(0, x)]) (e : En) (h20 : e.id.length = 20) (hx : a.eval x = ev e)
    (h : wpList Tryz.prog ops Q rest (a.put o.dst (.slice (some ⟨w.heap.size, 0, none⟩) 1 1)) (w.alloc (.cells (ecell e).toArray 80))) : wpList Tryz.prog ops Q (o :: rest) a w := by
  refine wpList_plain hg fun K hK => ?_
  have hr := run_oneR (w := w) x ho e h20 hx
  unfold Oper.wp
  rw [hr]
  exact hK _ _ h
abbrev WinR (w : World) (B : Nat) (v : Value) (l : List En) : Prop := Win w B 80 22 v l.length (ecs l)
theorem run_appR {w : World} {B : Nat} {v : Value} {l : List En} (hown : WinR w B v l) (A : Option Addr) (c n : Nat) (m : List En) (hn : n = m.length) (m20 : EAll m) (hA : Sl w A (ecs m)) (hb : l.length + m.length ≤ 100000) (hB : B ≤ w.heap.size) (ty : TypeId) :
    ∃ v' w', (Builtin.append_ #[72, 72] ty #[v, .slice A n c]).run Tryz.prog w = .ok v' w' ∧ WinR w' B v' (l ++ m) ∧ Kp (fun k => v.ownBlock = some k) w w' ∧ (v'.ownBlock = v.ownBlock ∨ v'.ownBlock = some w.heap.size) := by
  subst hn
  obtain ⟨v', w', h1, h2, h3, h4⟩ := run_appW (P := Tryz.prog) (w := w) B 72 72 ty 80 (.agg zen) 22 48 Tryz.underlying72 infoR3 rfl (by decide) v l.length (ecs l) hown (.slice A m.length c) m.length (ecs m) (srcOf Tryz.underlying72 (by decide) (ecs_len m m20) hA (ecs_one m)) (by omega) (by unfold maxLen; omega) hB
  refine ⟨v', w', h1, ?_, h3, h4⟩
  have : Win w' B 80 22 v' (l.length + m.length) (ecs l ++ ecs m) := h2
  rw [← ecs_app, ← List.length_append] at this
  exact this
theorem wpList_appR {w : World} {ops : Array Oper} {rest : List Oper} {o : Oper} {a : Act} {Q : Exit → Act → World → Prop} (hgd : o.guard = none) (s x : Operand)
    (ho : o.op = .call { callee := .builtin .append, args := #[s, x], argTypes := #[72, 72] })
    (B : Nat) (v : Value) (l : List En) (hs : a.eval s = v) (hown : WinR w B v l) (A : Option Addr) (c n : Nat) (m : List En) (hn : n = m.length) (m20 : EAll m) (hx : a.eval x = .slice A n c) (hA : Sl w A (ecs m))
    (hb : l.length + m.length ≤ 100000) (hB : B ≤ w.heap.size)
    (h : ∀ v' w', WinR w' B v' (l ++ m) → Kp (fun k => v.ownBlock = some k) w w' → (v'.ownBlock = v.ownBlock ∨ v'.ownBlock = some w.heap.size) → wpList Tryz.prog ops Q rest (a.put o.dst v') w') : wpList Tryz.prog ops Q (o :: rest) a w := by
  refine wpList_plain hgd fun K hK => ?_
  obtain ⟨v', w', hrun, h1, h2, h3⟩ := run_appR hown A c n m hn m20 hA hb hB o.type
  have hr := run_appOp (a := a) s x _ _ ho _ _ _ hs hx hrun
  unfold Oper.wp
  rw [hr]
  exact hK _ _ (h v' w' h1 h2 h3)
theorem ecs_single (e : En) : ecs [e] = ecell e := by simp [ecs]
/-- what EncodeTree's like hands back, entries -/
def OutN (l : List En) (e : Nat) (w : World) (z : Ending) (w' : World) : Prop := (∃ A c, z = .returned (.tuple #[.slice A l.length c, .int .i64 (e : Int)]) ∧ l.length ≤ c ∧ Sl w' A (ecs l)) ∧ Below w.heap.size w w'
end
end Go.Proofs.YtcedfapcpmedfaaGreatDoor
