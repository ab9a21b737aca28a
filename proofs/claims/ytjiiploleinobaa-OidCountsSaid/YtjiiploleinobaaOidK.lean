/- known answers true. No condition. -/
import Derived.Test.YtjiiploleinobaaOidI
namespace Go.Proofs.Ytjiiploleinobaa
open Go.RowKit
set_option maxRecDepth 100000
set_option maxHeartbeats 4000000
set_option linter.unusedVariables false
theorem wpList_loadG {P : Program} {w : World} {ops : Array Oper} {rest : List Oper} {o : Oper} {a : Act} {Q : Exit → Act → World → Prop} (ty : TypeId) (x : Operand) (ho : o.op = .load ty x)
    (ad : Addr) (hx : a.eval x = .pointer (some ad)) (v : Value) (hl : (loadVar ty ad).run P w = .ok v w) (hw : Region.wanted o (yielded ops a.tmps) = true)
    (h : wpList P ops Q rest (a.put o.dst v) w) : wpList P ops Q (o :: rest) a w := by
  refine wpList_step fun K hK => ?_
  rw [if_pos hw]
  unfold Oper.wp execOp
  simp only [ho, hx, Instr.loadAt, Instr.sureAddr, Sem.run_bind, Sem.run_pure, Result.andThen_ok, hl]
  exact hK _ _ h
def kid : List UInt8 := [1, 35, 69, 103, 137, 171, 205, 239, 1, 35, 69, 103, 137, 171, 205, 239, 1, 35, 69, 103]
theorem kid_len : kid.length = 20 := rfl
theorem pk1 : parseI [48, 49, 50, 51, 52, 53, 54, 55, 56, 57, 97, 98, 99, 100, 101, 102, 48, 49, 50, 51, 52, 53, 54, 55, 56, 57, 97, 98, 99, 100, 101, 102, 48, 49, 50, 51, 52, 53, 54, 55] = (kid, 0) := by decide +kernel
theorem pk2 : parseI [48, 49, 50, 51, 52, 53, 54, 55, 56, 57, 65, 66, 67, 68, 69, 70, 48, 49, 50, 51, 52, 53, 54, 55, 56, 57, 97, 98, 99, 100, 101, 102, 48, 49, 50, 51, 52, 53, 54, 55] = (zs20, 2) := by decide +kernel
theorem hexs_kid : hexs kid = [48, 49, 50, 51, 52, 53, 54, 55, 56, 57, 97, 98, 99, 100, 101, 102, 48, 49, 50, 51, 52, 53, 54, 55, 56, 57, 97, 98, 99, 100, 101, 102, 48, 49, 50, 51, 52, 53, 54, 55] := by decide +kernel
theorem hless : decide (Lib.compareBytes zs20 kid < 0) = true := by decide +kernel
theorem p1 (w : World) : Calls Try.prog 9 #[.string ⟨#[48, 49, 50, 51, 52, 53, 54, 55, 56, 57, 97, 98, 99, 100, 101, 102, 48, 49, 50, 51, 52, 53, 54, 55, 56, 57, 97, 98, 99, 100, 101, 102, 48, 49, 50, 51, 52, 53, 54, 55]⟩] w
    fun e w' => e = .returned (.tuple #[idv kid, .int .i64 0]) ∧ Below w.heap.size w w' := by
  have h := parse_any ⟨#[48, 49, 50, 51, 52, 53, 54, 55, 56, 57, 97, 98, 99, 100, 101, 102, 48, 49, 50, 51, 52, 53, 54, 55, 56, 57, 97, 98, 99, 100, 101, 102, 48, 49, 50, 51, 52, 53, 54, 55]⟩ w (by decide)
  rw [pk1] at h
  exact h
theorem p2 (w : World) : Calls Try.prog 9 #[.string ⟨#[48, 49, 50, 51, 52, 53, 54, 55, 56, 57, 65, 66, 67, 68, 69, 70, 48, 49, 50, 51, 52, 53, 54, 55, 56, 57, 97, 98, 99, 100, 101, 102, 48, 49, 50, 51, 52, 53, 54, 55]⟩] w
    fun e w' => e = .returned (.tuple #[idv zs20, .int .i64 2]) ∧ Below w.heap.size w w' := by
  have h := parse_any ⟨#[48, 49, 50, 51, 52, 53, 54, 55, 56, 57, 65, 66, 67, 68, 69, 70, 48, 49, 50, 51, 52, 53, 54, 55, 56, 57, 97, 98, 99, 100, 101, 102, 48, 49, 50, 51, 52, 53, 54, 55]⟩ w (by decide)
  rw [pk2] at h
  exact h
theorem h1 (w : World) : Calls Try.prog 11 #[idv kid] w
    fun e w' => e = .returned (.string ⟨#[48, 49, 50, 51, 52, 53, 54, 55, 56, 57, 97, 98, 99, 100, 101, 102, 48, 49, 50, 51, 52, 53, 54, 55, 56, 57, 97, 98, 99, 100, 101, 102, 48, 49, 50, 51, 52, 53, 54, 55]⟩) ∧ Below w.heap.size w w' := by
  have h := hex_any kid w kid_len
  rw [hexs_kid] at h
  exact h
theorem l1 (w : World) : Calls Try.prog 13 #[idv zs20, idv kid] w fun e w' => e = .returned (.bool true) ∧ Below w.heap.size w w' := by
  have h := less_any zs20 kid w zs20_len kid_len
  rw [hless] at h
  exact h
theorem new_set (w : World) (T : Nat) (c d : Array Value) : ((w.alloc (.cells c T)).setRow w.heap.size d).heap[w.heap.size]? = some (.cells d T (0, 0)) ∧ Below w.heap.size w ((w.alloc (.cells c T)).setRow w.heap.size d) :=
  ⟨setRow_heap _ _ _ _ _ _ (heap_alloc_new _ _), below_setRow ((Below.refl _ _).alloc (Nat.le_refl _) _) _ (Nat.le_refl _) _⟩
theorem sortK (w : World) (cs : Array Value) (h : cs = (bvs kid ++ bvs kid).toArray) : Calls Try.prog 14 #[.slice (some ⟨w.heap.size, 0, none⟩) 2 2] (w.alloc (.cells cs 23)) fun e w' => ∃ A' c', e = .returned (.slice A' 1 c') ∧ Below w.heap.size w w' := by
  subst h
  refine (sort_two kid kid_len ⟨w.heap.size, 0, none⟩ 2 _ (Sl.of_block (heap_alloc_new _ _) (fun j v hj => by simpa using hj))).mono ?_
  rintro e w' ⟨A', c', rfl, hb⟩
  exact ⟨A', c', rfl, ((Below.refl _ _).alloc (Nat.le_refl _) _).trans (hb.mono (by simp))⟩
theorem known_any (w : World) : Calls Try.prog 8 #[] w fun e w' => e = .returned (.bool true) ∧ Below w.heap.size w w' := by
  have zi := Lib.hid (info23 kid kid_len)
  have zj := Lib.hid (info23 zs20 zs20_len)
  go_enter Try.func8, Try.ntmps8
  go_upto_region 2 with (first
    | (go_at_call 9; (with_reducible refine (p1 _).mono ?_); rintro e w1 ⟨rfl, hb1⟩)
    | (refine wpList_store_row rfl 23 (.tmp 1) (.tmp 7) rfl w1.heap.size (bvs kid).toArray rfl rfl 23 (bvs zs20).toArray (heap_alloc_new _ _) zi.out rfl (one_bvs _) ?_))
  simp only [zlit]
  obtain ⟨r1, b1⟩ := new_set w1 23 (bvs zs20).toArray (bvs kid).toArray
  obtain ⟨W1, hW1⟩ : ∃ W1, W1 = (w1.alloc (.cells (bvs zs20).toArray 23)).setRow w1.heap.size (bvs kid).toArray := ⟨_, rfl⟩
  rw [← hW1] at r1 b1 ⊢
  clear hW1
  have B1 := hb1.trans (b1.mono hb1.size)
  have hlt1 : w1.heap.size < W1.heap.size := (Array.getElem?_eq_some_iff.1 r1).1
  obtain ⟨g, hg⟩ : ∃ g, g = w1.heap.size := ⟨_, rfl⟩
  rw [← hg] at r1 b1 hlt1 ⊢
  clear hg hb1
  have S1 : Sl W1 (some ⟨g, 0, none⟩) (bvs kid) := Sl.of_block r1 (fun j v hj => by simpa using hj)
  have S1' := Lib.hid S1
  clear S1 r1 b1 zi
  go_upto_region 3 with (first
    | (go_at_call 9; (with_reducible refine (p2 _).mono ?_); rintro e w2 ⟨rfl, hb2⟩)
    | (refine wpList_store_row rfl 23 (.tmp 3) (.tmp 11) rfl w2.heap.size (bvs zs20).toArray rfl rfl 23 (bvs zs20).toArray (heap_alloc_new _ _) zj.out rfl (one_bvs _) ?_))
  simp only [zlit]
  obtain ⟨r2, b2⟩ := new_set w2 23 (bvs zs20).toArray (bvs zs20).toArray
  obtain ⟨W2, hW2⟩ : ∃ W2, W2 = (w2.alloc (.cells (bvs zs20).toArray 23)).setRow w2.heap.size (bvs zs20).toArray := ⟨_, rfl⟩
  rw [← hW2] at r2 b2 ⊢
  clear hW2 r2 zj
  have B2 := hb2.trans (b2.mono hb2.size)
  have S2 := S1'.out.below B2
  have B := B1.trans (B2.mono B1.size)
  clear hb2 b2 B1 B2 S1' hlt1
  obtain ⟨c, hc⟩ : ∃ c, W2.cell? ⟨g, 1, none⟩ = some c ∧ c = .int .u8 35 := by
    obtain ⟨ad, e, h⟩ := S2 1 (.int .u8 35) (by kernel_rfl)
    injection e with e
    subst e
    exact ⟨_, h, rfl⟩
  obtain ⟨hc, rfl⟩ := hc
  have kh := h1 W2
  have lo := load_id kid kid_len _ _ S2
  have S2' := Lib.hid S2
  clear S2
  go_wp2_with (first
    | (go_at_call 11; (with_reducible refine kh.mono ?_); rintro e w3 ⟨rfl, hb3⟩
       have S3 := S2'.out.below hb3
       have lo3 := load_id kid kid_len _ _ S3
       have S3' := Lib.hid S3
       clear S3)
    | (refine wpList_loadG 23 (.tmp 1) rfl ⟨g, 0, none⟩ rfl (idv kid) lo (by kernel_rfl) ?_)
    | (refine wpList_loadG 23 (.tmp 1) rfl ⟨g, 0, none⟩ rfl (idv kid) lo3 (by kernel_rfl) ?_)
    | (go_at_call 14; refine (sortK w3 _ (by kernel_rfl)).mono ?_; rintro e w4 ⟨A4, c4, rfl, hb4⟩
       have S4 := S3'.out.below hb4
       have lo4 := load_id kid kid_len _ _ S4
       clear S4)
    | (refine wpList_loadG 23 (.tmp 1) rfl ⟨g, 0, none⟩ rfl (idv kid) lo4 (by kernel_rfl) ?_)
    | (go_at_call 13; refine (l1 _).mono ?_; rintro e w5 ⟨rfl, hb5⟩))
  go_ret
  have C3 := B.trans (hb3.mono B.size)
  have C4 := C3.trans (hb4.mono C3.size)
  exact ⟨rfl, C4.trans (hb5.mono C4.size)⟩
end Go.Proofs.Ytjiiploleinobaa
