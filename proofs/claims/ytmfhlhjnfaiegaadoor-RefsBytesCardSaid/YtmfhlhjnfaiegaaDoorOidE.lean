/- The reference's Parse tells a text's name. Condition: a text has at most 2^40 bytes. -/
import Derived.Test.YtmfhlhjnfaiegaaDoorOidD
namespace Go.Proofs.YtmfhlhjnfaiegaaDoor
open Go.RowKit
set_option maxRecDepth 100000
set_option maxHeartbeats 4000000
set_option linter.unusedVariables false
theorem digit_any' (c : UInt8) (w : World) : Calls Tryd.prog 45 #[.int .u8 (c.toNat : Int)] w fun e w' => e = .returned (.int .i64 (dig c)) ∧ w' = w := (digit_any c w).mono fun _ _ ⟨h1, h2⟩ => ⟨h1, h2.symm⟩
theorem parseRef_any (s : ByteArray) (w : World) (hs : s.size ≤ 1099511627776) :
    Calls Tryd.prog 28 #[.string s] w fun e w' => e = .returned (.tuple #[idv (parseI s.data.toList).1, .int .i64 ((parseI s.data.toList).2 : Nat)]) ∧ Below w.heap.size w w' := by
  have hsl : s.data.toList.length = s.size := by simp
  have zi := Lib.hid (info22 zs20 zs20_len)
  by_cases h40 : s.size = 40
  · have q1 : ((s.size : Int) != 40) = false := by simp [h40]
    have hgood : allHex s.data.toList → parseI s.data.toList = (pst s.data.toList 40, 0) := fun hh => by unfold parseI; rw [if_pos ⟨by omega, hh⟩]
    have hbad : ¬ allHex s.data.toList → parseI s.data.toList = (zs20, 2) := fun hh => by unfold parseI; rw [if_neg (fun h => hh h.2)]; rfl
    have GOOD := Lib.hid hgood; have BAD := Lib.hid hbad
    have H40 := Lib.hid h40
    clear hgood hbad hsl
    go_enter Tryd.func28, Tryd.ntmps28
    go_upto_region 2 with fail
    simp only [zlit]
    obtain ⟨r1, r2, hb⟩ := two_new w 40 (bvs zs20).toArray
    obtain ⟨W, hW⟩ : ∃ W, W = (w.alloc (.cells (bvs zs20).toArray 40)).alloc (.cells (bvs zs20).toArray 40) := ⟨_, rfl⟩
    rw [← hW] at r1 r2 hb ⊢
    clear hW
    have R1 := Lib.hid r1; have R2 := Lib.hid r2
    clear r1 r2
    go_wp2_with fail
    clear h40
    go_loopw [5] (fun t5 wr => ∃ k : Nat, t5 = .int .i64 k ∧ k ≤ 40 ∧ (∀ c ∈ s.data.toList.take k, 0 ≤ dig c) ∧ wr.heap[w.heap.size]? = some (.cells (bvs zs20).toArray 40 (0, 0)) ∧ wr.heap[w.heap.size + 1]? = some (.cells (bvs (pst s.data.toList k)).toArray 40 (0, 0)) ∧ Below w.heap.size w wr) (fun t5 _ => 40 - (intOf t5).toNat)
    case atStart => exact ⟨0, rfl, by omega, by simp, R1.out, R2.out, hb⟩
    case round =>
      clear R1 R2 hb
      obtain ⟨k, rfl, hk, hok, r1, r2, hb⟩ := hrel
      have R1 := Lib.hid r1; have R2 := Lib.hid r2; have HB := Lib.hid hb; have HOK := Lib.hid hok
      clear r1 hb hok
      by_cases hlt : k < 40
      · obtain ⟨j, hj⟩ : ∃ j, j = k / 2 := ⟨_, rfl⟩
        have hkj : (k : Int) / 2 = (j : Int) := by omega
        have hj20 : j < 20 := by omega
        have hji : (j : Int) < 20 := by omega
        have hjz : (0 : Int) ≤ (j : Int) := by omega
        have hwj : IntKind.i64.wrap (j : Int) = (j : Int) := IntWalk.i64_in _ (by omega)
        have hpl := pst_len s.data.toList k
        obtain ⟨x, hx⟩ : ∃ x, x = (pst s.data.toList k).getD j 0 := ⟨_, rfl⟩
        have hcell : wr.cell? ⟨w.heap.size + 1, j, none⟩ = some (.int .u8 (x.toNat : Int)) := by
          rw [cell_of_row _ _ _ _ _ _ r2, hx]
          simp [bvs, bv, hpl, hj20]
        have HJ := Lib.hid hj; have HX := Lib.hid hx
        clear r2 hj hx hpl
        have hks : k < s.size := by rw [H40.out]; exact hlt
        obtain ⟨c, hc⟩ : ∃ c, c = s[k] := ⟨_, rfl⟩
        have hix : ∀ W, (Instr.index 9 (.string s) (.int .i64 (k : Int))).run Tryd.prog W = .ok (.int .u8 (c.toNat : Int)) W := fun W => by
          rw [hc, run_index_string (P := Tryd.prog) (w := W) (t := 9) (s := s) (k := .i64) (i := (k : Int)) (h := Tryd.underlying9), dif_pos (by omega)]; rfl
        have hst := str_at s k hks
        rw [← hc] at hst
        have HC := Lib.hid hc; have HST := Lib.hid hst
        clear hc hst
        have k0 := digit_any c wr
        by_cases hd0 : 0 ≤ dig c
        · have q2 : decide (dig c < 0) = false := decide_eq_false (by omega)
          have hdl := dig_lt c
          have ki := digit_any' c wr.drew
          have hxl := x.toNat_lt
          obtain ⟨d, hd⟩ : ∃ d : Nat, d = (dig c).toNat := ⟨_, rfl⟩
          obtain ⟨p, hp⟩ : ∃ p : Nat, p = x.toNat % 16 * 16 := ⟨_, rfl⟩
          obtain ⟨y, hy⟩ : ∃ y : UInt8, y = UInt8.ofNat (x.toNat % 16 * 16 + (dig c).toNat) := ⟨_, rfl⟩
          have hw1 : IntKind.u8.wrap (dig c) = (d : Int) := by rw [IntWalk.u8_in _ (by omega)]; omega
          have hw2 : IntKind.u8.wrap ((x.toNat : Int) * 16) = (p : Int) := by rw [u8_wrap]; omega
          have hor : bits .or .u8 (p : Int) (d : Int) = (y.toNat : Int) := by
            have h1 := bits_or_nat .u8 8 (by decide) (fun n h0 h1 => IntWalk.u8_in n (by omega)) (a := p) (b := d) (by omega) (by omega)
            have h2 : p ||| d = p + d := by
              have h := Nat.two_pow_add_eq_or_of_lt (i := 4) (b := d) (by omega) (x.toNat % 16)
              rw [show 2 ^ 4 * (x.toNat % 16) = p by omega] at h
              exact h.symm
            rw [h1, h2, hy]
            simp
            omega
          have HY := Lib.hid hy; have HD := Lib.hid hd; have HPP := Lib.hid hp; have HD0 := Lib.hid hd0
          have r2' := R2.out
          have hcd : wr.drew.cell? ⟨w.heap.size + 1, j, none⟩ = some (.int .u8 (x.toNat : Int)) := hcell
          have hfz : wr.drew.frozen? ⟨w.heap.size + 1, j, none⟩ = false := frozen_of_row _ _ _ _ _ r2'
          clear hd hp hy r2' hdl hd0
          go_wp2_with (go_at_call 45; (with_reducible refine k0.mono ?_); rintro e w1 ⟨rfl, rfl⟩)
          refine wp_region_still_tail 14 (by kernel_rfl) (by kernel_rfl) ?_
          simp only [List.take_succ_cons, List.take_zero, List.drop_succ_cons, List.drop_zero]
          repeat still_step
          still_call ki
          repeat still_step
          refine wpStill_nil ?_
          change wpList _ _ _ _ _ wr.drew
          go_wp2
          go_roundw
          case rel =>
            refine ⟨k + 1, by go_num, by omega, ?_, ?_, ?_, ?_⟩
            · intro z hz
              rw [HST.out.1, List.mem_append] at hz
              rcases hz with hz | hz
              · exact HOK.out z hz
              · simp at hz; subst hz; exact HD0.out
            · exact (heap_setCell_ne wr _ _ _ (by simp)).trans R1.out
            · have := heap_setCell_same wr (w.heap.size + 1) j _ 40 (.int .u8 (y.toNat : Int)) R2.out
              refine this.trans ?_
              rw [pst, ← HJ.out, ← HX.out, show s.data.toList.getD k 0 = c by rw [HC.out, List.getD_eq_getElem?_getD, List.getElem?_eq_getElem (by simpa using hks)]; rfl, ← HY.out]
              congr 2
              apply Array.ext'
              simp [bvs, bv, List.map_set]
            · exact ⟨HB.out.os, HB.out.tape, HB.out.output, by simpa using HB.out.size, fun i hi => (heap_setCell_ne wr _ _ _ (by simp; omega)).trans (HB.out.block i hi)⟩
          case measure => simp [intOf]; omega
        · have q2 : decide (dig c < 0) = true := decide_eq_true (by omega)
          have HPB := Lib.hid (BAD.out (fun h => hd0 (h c HST.out.2)))
          clear hd0
          go_upto_region 8 with (go_at_call 45; (with_reducible refine k0.mono ?_); rintro e w1 ⟨rfl, rfl⟩)
          have hzl := zlit
          go_wp2_with (refine wpList_store_row rfl 40 (.tmp 2) (.tmp 19) rfl w.heap.size (bvs zs20).toArray rfl rfl 40 _ R1.out zi.out rfl (one_bvs _) ?_)
          refine bodyPost_ret (results_cell_tmp1 rfl _ _ w.heap.size 40 (bvs zs20).toArray (0, 0) _ rfl (setRow_heap _ _ _ _ _ _ R1.out) Tryd.underlying40 rfl zi.out) rfl ?_
          exact ⟨by rw [HPB.out]; rfl, below_setRow HB.out _ (Nat.le_refl _) _⟩
      · obtain rfl : k = 40 := by omega
        have hall : allHex s.data.toList := fun c hc => HOK.out c (by rwa [List.take_of_length_le (by have := H40.out; simp; omega)])
        have r2' := R2.out
        have hp' := GOOD.out hall
        have hpl := pst_len s.data.toList 40
        clear R2 GOOD BAD hall
        generalize pst s.data.toList 40 = t at r2' hp' hpl
        have zp := Lib.hid (info22 t hpl)
        have hzs : (bvs zs20).toArray.size = (bvs t).toArray.size := by simp [zs20_len, hpl]
        have HZ := Lib.hid hzs; have R2 := Lib.hid r2'; have HP := Lib.hid hp'
        clear r2 hzs r2' hp'
        go_wp2_with (first
          | (refine wpList_load_row rfl 40 (.tmp 4) rfl (w.heap.size + 1) rfl 40 (bvs t).toArray (0, 0) _ R2.out Tryd.underlying40 rfl zp.out ?_)
          | (refine wpList_store_row rfl 40 (.tmp 2) (.tmp 34) rfl w.heap.size (bvs t).toArray rfl rfl 40 _ R1.out zp.out HZ.out (one_bvs _) ?_))
        refine bodyPost_ret (results_cell_tmp1 rfl _ _ w.heap.size 40 (bvs t).toArray (0, 0) _ rfl (setRow_heap _ _ _ _ _ _ R1.out) Tryd.underlying40 rfl zp.out) rfl ?_
        exact ⟨by rw [HP.out]; rfl, below_setRow HB.out _ (Nat.le_refl _) _⟩
  · have hp : parseI s.data.toList = (zs20, 2) := by unfold parseI; rw [if_neg (by omega)]; rfl
    have q1 : ((s.size : Int) != 40) = true := by simp; omega
    have HP := Lib.hid hp
    clear hp hsl
    go_enter Tryd.func28, Tryd.ntmps28
    go_upto_region 2 with fail
    simp only [zlit]
    obtain ⟨r1, r2, hb⟩ := two_new w 40 (bvs zs20).toArray
    obtain ⟨W, hW⟩ : ∃ W, W = (w.alloc (.cells (bvs zs20).toArray 40)).alloc (.cells (bvs zs20).toArray 40) := ⟨_, rfl⟩
    rw [← hW] at r1 r2 hb ⊢
    clear hW
    have R1 := Lib.hid r1; have R2 := Lib.hid r2
    clear r1 r2
    go_wp2_with (first
      | (refine wpList_load_row rfl 40 (.tmp 4) rfl (w.heap.size + 1) rfl 40 (bvs zs20).toArray (0, 0) _ R2.out Tryd.underlying40 rfl zi.out ?_)
      | (refine wpList_store_row rfl 40 (.tmp 2) (.tmp 9) rfl w.heap.size (bvs zs20).toArray rfl rfl 40 _ R1.out zi.out rfl (one_bvs _) ?_))
    refine bodyPost_ret (results_cell_tmp1 rfl _ _ w.heap.size 40 (bvs zs20).toArray (0, 0) _ rfl (setRow_heap _ _ _ _ _ _ R1.out) Tryd.underlying40 rfl zi.out) rfl ?_
    exact ⟨by rw [HP.out]; rfl, below_setRow hb _ (Nat.le_refl _) _⟩
end Go.Proofs.YtmfhlhjnfaiegaaDoor
