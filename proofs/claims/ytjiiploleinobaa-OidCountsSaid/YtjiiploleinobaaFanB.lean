/- oid.Fanout. Conditions: twenty bytes each, fewer than 256 names. -/
import Derived.Test.YtjiiploleinobaaFanA
import Derived.Test.YtjiiploleinobaaOidK
namespace Go.Proofs.Ytjiiploleinobaa
open Go.RowKit
set_option maxRecDepth 100000
set_option maxHeartbeats 4000000
set_option linter.unusedVariables false
theorem tab_one (f : Nat → Nat) : (tab f).all (·.oneCell') = true := by
  rw [Array.all_eq_true_iff_forall_mem]
  intro v hv
  simp only [tab, List.mem_toArray, List.mem_map] at hv
  obtain ⟨i, _, rfl⟩ := hv
  rfl
/-- the state of Fanout: the row of numbers g, the result's row o -/
structure Fan (w W : World) (o g : Nat) (f : Nat → Nat) : Prop where
  row : W.heap[g]? = some (.cells (tab f) 44 (0, 0))
  res : W.heap[o]? = some (.cells (tab fun _ => 0) 44 (0, 0))
  ge : w.heap.size ≤ o
  gt : o < g
  below : Below w.heap.size w W
theorem Fan.step {w W W' : World} {o g : Nat} {f : Nat → Nat} (h : Fan w W o g f) (hb : Below W.heap.size W W') : Fan w W' o g f :=
  ⟨(hb.block g (Array.getElem?_eq_some_iff.1 h.row).1).trans h.row, (hb.block o (Array.getElem?_eq_some_iff.1 h.res).1).trans h.res, h.ge, h.gt, h.below.trans (hb.mono h.below.size)⟩
theorem Fan.cell {w W : World} {o g : Nat} {f : Nat → Nat} (h : Fan w W o g f) (i : Nat) (hi : i < 256) : W.cell? ⟨g, i, none⟩ = some (.int .i64 (f i : Int)) ∧ W.frozen? ⟨g, i, none⟩ = false :=
  ⟨by rw [cell_of_row _ _ _ _ _ _ h.row]; exact tab_at f i hi, frozen_of_row _ _ _ _ _ h.row⟩
theorem Fan.set {w W : World} {o g : Nat} {f f' : Nat → Nat} (h : Fan w W o g f) (i : Nat) (hi : i < 256) (z : Int) (v : Nat) (hz : z = (v : Int)) (hf : ∀ j, j < 256 → f' j = if j = i then v else f j) : Fan w (W.setCell ⟨g, i, none⟩ (.int .i64 z)) o g f' := by
  subst hz
  have hg := h.gt; have ho := h.ge
  refine ⟨?_, (Below.heap_setCell _ _ _ _ (by simp only; omega)).trans h.res, h.ge, h.gt, h.below.setCell (p := ⟨g, i, none⟩) (by simp only; omega) _⟩
  have := heap_setCell_same W g i _ 44 (.int .i64 (v : Int)) h.row
  rw [tab_set f i v hi] at this
  rw [this, tab_congr hf]
theorem fanout_any (l : List (List UInt8)) (h20 : All20 l) (hn : l.length < 256) (A : Option Addr) (c : Nat) (w : World) (hA : Sl w A (idc l)) :
    Calls Try.prog 19 #[.slice A l.length c] w fun e w' => e = .returned (.agg (tab (fan l))) ∧ Below w.heap.size w w' := by
  obtain ⟨n, hnn⟩ : ∃ n, n = l.length := ⟨_, rfl⟩
  rw [← hnn]
  have hn2 : n < 256 := by rw [hnn]; exact hn
  obtain ⟨W0, hW0⟩ : ∃ W0, W0 = (w.alloc (.cells Try.zeroCells44 44)).alloc (.cells Try.zeroCells44 44) := ⟨_, rfl⟩
  have fan0 : Fan w W0 w.heap.size (w.heap.size + 1) (cnt (l.take 0)) := by
    rw [hW0, zero44]
    refine ⟨?_, ?_, Nat.le_refl _, by omega, ((Below.refl _ _).alloc (Nat.le_refl _) _).alloc (by simp) _⟩
    · have h := heap_alloc_new (w.alloc (.cells (tab fun _ => 0) 44)) (.cells (tab fun _ => 0) 44)
      rw [show (w.alloc (.cells (tab fun _ => 0) 44)).heap.size = w.heap.size + 1 by simp] at h
      rw [h]
      rfl
    · exact (((Below.refl _ _).alloc (Nat.le_refl _) _ : Below (w.alloc (.cells (tab fun _ => 0) 44)).heap.size _ _).block _ (by simp)).trans (heap_alloc_new _ _)
  have HW0 := Lib.hid hW0; have HN := Lib.hid hnn; have H20 := Lib.hid h20; have HA := Lib.hid hA
  clear hW0 hnn h20 hA hn
  go_enter Try.func19, Try.ntmps19
  go_upto_block 0 with (fail)
  rw [← HW0.out]
  go_wp2_with fail
  go_loopw [9] (fun t9 wr => ∃ i : Nat, t9 = .int .i64 (i : Int) ∧ i ≤ n ∧ Fan w wr w.heap.size (w.heap.size + 1) (cnt (l.take i))) (fun t9 _ => (n - intOf t9).toNat)
  case atStart => exact ⟨0, rfl, by omega, fan0⟩
  case round =>
    clear fan0
    obtain ⟨i, rfl, hi, hF⟩ := hrel
    by_cases hin : i < n
    · have hil : i < l.length := by rw [← HN.out]; exact hin
      obtain ⟨ad, rfl⟩ : ∃ ad, A = some ad := by
        cases A with
        | some ad => exact ⟨ad, rfl⟩
        | none =>
          have := sl_none HA.out H20.out
          rw [this] at hil
          simp at hil
      have hr := (sl_row HA.out H20.out i hil).below hF.below
      obtain ⟨x, hx⟩ : ∃ x, x = l.getD i [] := ⟨_, rfl⟩
      have hx20 := get20 H20.out i hil
      rw [← hx] at hr hx20
      have lx := load_id x hx20 _ _ hr
      have zi := Lib.hid (info23 x hx20)
      have HX := Lib.hid hx; have HX20 := Lib.hid hx20; have LX := Lib.hid lx; have HF := Lib.hid hF
      clear hx hx20 hr lx hF
      go_upto_region 5 with (first
        | (refine wpList_loadG 23 (.tmp 11) rfl (ad.add (i * 20)) rfl (idv x) LX.out rfl ?_)
        | (refine wpList_store_row rfl 23 (.tmp 5) (.tmp 12) rfl wr.heap.size (bvs x).toArray rfl rfl 23 (bvs zs20).toArray (heap_alloc_new _ _) zi.out (by simp [HX20.out, zs20_len]) (one_bvs _) ?_))
      simp only [zlit]
      obtain ⟨r1, b1⟩ := new_set wr 23 (bvs zs20).toArray (bvs x).toArray
      obtain ⟨W, hW⟩ : ∃ W, W = (wr.alloc (.cells (bvs zs20).toArray 23)).setRow wr.heap.size (bvs x).toArray := ⟨_, rfl⟩
      obtain ⟨e, he⟩ : ∃ e, e = wr.heap.size := ⟨_, rfl⟩
      rw [← hW] at r1 b1 ⊢
      rw [← he] at r1
      simp only [← he]
      have hF2 := HF.out.step b1
      obtain ⟨b, hb⟩ : ∃ b, b = x.getD 0 0 := ⟨_, rfl⟩
      have c0 : W.cell? ⟨e, 0, none⟩ = some (.int .u8 (b.toNat : Int)) := by
        have s := Sl.of_block (off := 0) r1 (l := bvs x) (fun j v hj => by simpa using hj)
        obtain ⟨ad', e', h⟩ := Bs.at (l := x) s (j := 0) (by rw [HX20.out]; omega)
        injection e' with e'
        subst e'
        rw [add_plain, Nat.zero_add] at h
        rw [h, hb, List.getD_eq_getElem?_getD, List.getElem?_eq_getElem (by rw [HX20.out]; omega)]
        rfl
      have hbl := b.toNat_lt
      obtain ⟨cg, fg⟩ := hF2.cell b.toNat (by omega)
      have hcl := cnt_le (l.take i) b.toNat
      rw [List.length_take] at hcl
      obtain ⟨v, hv⟩ : ∃ v, v = cnt (l.take i) b.toNat := ⟨_, rfl⟩
      rw [← hv] at cg hcl
      have hv2 : v ≤ 256 := by omega
      have hF3 := hF2.set (f' := cnt (l.take (i + 1))) b.toNat (by omega) ((v : Int) + 1) (v + 1) (by omega) (fun j hj => by
        rw [cnt_snoc l i hil, ← HX.out, hv]
        have e2 : fst8 x = b.toNat := by unfold fst8; rw [hb]
        rw [e2]
        by_cases e3 : j = b.toNat
        · rw [if_pos e3, if_pos e3, e3]
        · rw [if_neg e3, if_neg e3])
      have HF3 := Lib.hid hF3
      clear hW r1 b1 he hF2 hb hv hcl HF hF3 zi
      go_wp2
      go_roundw
      case rel => exact ⟨i + 1, by simp, by omega, HF3.out⟩
      case measure => simp only [intOf]; omega
    · obtain rfl : i = n := by omega
      have e0 : l.take i = l := List.take_of_length_le (by rw [← HN.out]; exact Nat.le_refl _)
      rw [e0] at hF
      clear e0
      go_wp2
      go_loopw [6] (fun t6 wq => ∃ k : Nat, t6 = .int .i64 (k : Int) ∧ 1 ≤ k ∧ k ≤ 256 ∧ Fan w wq w.heap.size (w.heap.size + 1) (fun j => if j < k then fan l j else cnt l j)) (fun t6 _ => (256 - intOf t6).toNat)
      case atStart => exact ⟨1, rfl, by omega, by omega, ⟨by
        rw [hF.row, tab_congr (fun j hj => ?_)]
        by_cases e : j < 1
        · have : j = 0 := by omega
          subst this
          simp [fan_zero]
        · simp [e], hF.res, hF.ge, hF.gt, hF.below⟩⟩
      case round =>
        clear hF
        obtain ⟨k, rfl, hk1, hk2, hF⟩ := hrel
        by_cases h256 : k < 256
        · obtain ⟨m, hm⟩ : ∃ m, k = m + 1 := ⟨k - 1, by omega⟩
          have hwk : IntKind.i64.wrap ((k : Int) - 1) = (m : Int) := by rw [IntWalk.i64_in _ (by omega)]; omega
          have hm256 : m < 256 := by omega
          have hm257 : (m : Int) < 256 := by omega
          obtain ⟨c1, f1⟩ := (hF.step ((Below.refl _ _).drew)).cell k h256
          obtain ⟨c0, _⟩ := (hF.step ((Below.refl _ _).drew)).cell m hm256
          rw [if_neg (by omega)] at c1
          rw [if_pos (by omega)] at c0
          have b1 := cnt_le l k
          have b0 := fan_le l m
          have b2 : l.length < 256 := by rw [← HN.out]; exact hn2
          obtain ⟨v1, hv1⟩ : ∃ v, v = cnt l k := ⟨_, rfl⟩
          obtain ⟨v0, hv0⟩ : ∃ v, v = fan l m := ⟨_, rfl⟩
          rw [← hv1] at c1 b1
          rw [← hv0] at c0 b0
          have hv1' : v1 ≤ 256 := by omega
          have hv0' : v0 ≤ 256 := by omega
          have hwa : IntKind.i64.wrap ((v1 : Int) + (v0 : Int)) = (v1 : Int) + (v0 : Int) := IntWalk.i64_in _ (by omega)
          have hF3 := (hF.step ((Below.refl _ _).drew)).set (f' := fun j => if j < k + 1 then fan l j else cnt l j) k h256 ((v1 : Int) + (v0 : Int)) (v1 + v0) (by omega) (fun j hj => by
            by_cases e : j = k
            · rw [if_pos e, if_pos (by omega), e, hm, fan_succ, hv1, hv0, hm]
            · rw [if_neg e]
              by_cases e2 : j < k
              · rw [if_pos (by omega), if_pos e2]
              · rw [if_neg (by omega), if_neg e2])
          have HF3 := Lib.hid hF3
          clear hF hF3 hm hv1 hv0 b1 b0 b2
          go_wp2
          go_still_tail 9, (by kernel_rfl)
          change wpList _ _ _ _ _ wr.drew
          go_wp2
          go_roundw
          case rel => exact ⟨k + 1, by simp, by omega, by omega, HF3.out⟩
          case measure => simp only [intOf]; omega
        · obtain rfl : k = 256 := by omega
          have et : tab (fun j => if j < 256 then fan l j else cnt l j) = tab (fan l) := tab_congr (fun j hj => if_pos hj)
          have hrow := hF.row
          rw [et] at hrow
          obtain ⟨T, hT⟩ : ∃ T, T = tab (fan l) := ⟨_, rfl⟩
          have hsz : T.size = 256 := by rw [hT, tab_size]
          have hone : T.all (·.oneCell') = true := by rw [hT]; exact tab_one _
          rw [← hT] at hrow
          have z44 : (Try.prog.info? 44).map (·.size) = some T.size := by rw [hsz]; kernel_rfl
          have lg := run_loadVar_row (P := Try.prog) wr (w.heap.size + 1) 44 44 T (0, 0) _ hrow Try.underlying44 rfl z44
          have LG := Lib.hid lg; have Z44 := Lib.hid z44; have HFF := Lib.hid hF; have HSZ := Lib.hid hsz; have HON := Lib.hid hone; have HTT := Lib.hid hT
          clear hrow lg z44 hF hsz hone et hT
          go_wp2_with (first
            | (refine wpList_loadG 44 (.tmp 3) rfl ⟨w.heap.size + 1, 0, none⟩ rfl (.agg T) LG.out rfl ?_)
            | (refine wpList_store_row rfl 44 (.tmp 2) (.tmp 33) rfl w.heap.size T rfl rfl 44 (tab fun _ => 0) HFF.out.res Z44.out (by rw [HSZ.out, tab_size]) HON.out ?_))
          (try simp only [Exit.inBlock, Exit.then])
          refine bodyPost_ret (results_cell_row rfl _ _ w.heap.size 44 T (0, 0) _ rfl (setRow_heap _ _ _ _ _ _ HFF.out.res) Try.underlying44 rfl Z44.out) rfl ?_
          exact ⟨by rw [HTT.out], below_setRow HFF.out.below _ (Nat.le_refl _) _⟩
end Go.Proofs.Ytjiiploleinobaa
