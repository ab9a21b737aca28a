/- Parse and the reference's Parse tell a text's name. Condition: a text has at most 2^40 bytes. -/
import Derived.Test.YtmfhlhjnfaiegaaDoorOidC
import Derived.Test.YtmfhlhjnfaiegaaDoorMemC
import Derived.StillTactics
namespace Go.Proofs.YtmfhlhjnfaiegaaDoor
open Go.RowKit
set_option maxRecDepth 100000
set_option maxHeartbeats 4000000
set_option linter.unusedVariables false
def zs20 : List UInt8 := List.replicate 20 0
theorem zlit : (#[.int .u8 0, .int .u8 0, .int .u8 0, .int .u8 0, .int .u8 0, .int .u8 0, .int .u8 0, .int .u8 0, .int .u8 0, .int .u8 0, .int .u8 0, .int .u8 0, .int .u8 0, .int .u8 0, .int .u8 0, .int .u8 0, .int .u8 0, .int .u8 0, .int .u8 0, .int .u8 0] : Array Value) = (bvs zs20).toArray := rfl
theorem zs20_len : zs20.length = 20 := by simp [zs20]
theorem one_bvs (l : List UInt8) : (bvs l).toArray.all (·.oneCell') = true := by
  rw [Array.all_eq_true]
  intro i h
  simp [bvs, bv, Value.oneCell']
theorem info23 (l : List UInt8) (h : l.length = 20) : (Tryd.prog.info? 41).map (·.size) = some (bvs l).toArray.size := by
  rw [show (bvs l).toArray.size = 20 by simp [h]]; kernel_rfl
theorem info22 (l : List UInt8) (h : l.length = 20) : (Tryd.prog.info? 40).map (·.size) = some (bvs l).toArray.size := by
  rw [show (bvs l).toArray.size = 20 by simp [h]]; kernel_rfl
theorem two_new (w : World) (T : Nat) (c : Array Value) : ((w.alloc (.cells c T)).alloc (.cells c T)).heap[w.heap.size]? = some (.cells c T (0, 0)) ∧ ((w.alloc (.cells c T)).alloc (.cells c T)).heap[w.heap.size + 1]? = some (.cells c T (0, 0)) ∧
    Below w.heap.size w ((w.alloc (.cells c T)).alloc (.cells c T)) := by
  have b2 : Below (w.alloc (.cells c T)).heap.size (w.alloc (.cells c T)) ((w.alloc (.cells c T)).alloc (.cells c T)) := (Below.refl _ _).alloc (Nat.le_refl _) _
  refine ⟨(b2.block _ (by simp)).trans (heap_alloc_new _ _), ?_, ((Below.refl _ _).alloc (Nat.le_refl _) _).alloc (by simp) _⟩
  have := heap_alloc_new (w.alloc (.cells c T)) (.cells c T)
  rwa [show (w.alloc (.cells c T)).heap.size = w.heap.size + 1 by simp] at this
theorem u8_wrap (z : Int) : IntKind.u8.wrap z = z % 256 := by rw [IntKind.wrap_u8]
theorem idx_dig' (c : UInt8) (w : World) : Calls Tryd.prog 44 #[.string ⟨#[48, 49, 50, 51, 52, 53, 54, 55, 56, 57, 97, 98, 99, 100, 101, 102]⟩, .int .u8 (c.toNat : Int)] w fun e w' => e = .returned (.int .i64 (dig c)) ∧ w' = w := (idx_dig c w).mono fun _ _ ⟨h1, h2⟩ => ⟨h1, h2.symm⟩
theorem parse_any (s : ByteArray) (w : World) (hs : s.size ≤ 1099511627776) :
    Calls Tryd.prog 26 #[.string s] w fun e w' => e = .returned (.tuple #[idv (parseI s.data.toList).1, .int .i64 ((parseI s.data.toList).2 : Nat)]) ∧ Below w.heap.size w w' := by
  have hsl : s.data.toList.length = s.size := by simp
  have bad : ∀ (q : Bool), parseI s.data.toList = (zs20, 2) → (q = true → ((s.size : Int) != 40) = true) → (q = false → ((s.size : Int) != 40) = false ∧ decide (allHex s.data.toList) = false) →
      Calls Tryd.prog 26 #[.string s] w fun e w' => e = .returned (.tuple #[idv (parseI s.data.toList).1, .int .i64 ((parseI s.data.toList).2 : Nat)]) ∧ Below w.heap.size w w' := by
    intro q hp h1 h2
    have HP := Lib.hid hp
    clear hp hsl
    have zi := Lib.hid (info23 zs20 zs20_len)
    go_enter Tryd.func26, Tryd.ntmps26
    go_upto_region 2 with fail
    simp only [zlit]
    obtain ⟨r1, r2, hb⟩ := two_new w 41 (bvs zs20).toArray
    obtain ⟨W, hW⟩ : ∃ W, W = (w.alloc (.cells (bvs zs20).toArray 41)).alloc (.cells (bvs zs20).toArray 41) := ⟨_, rfl⟩
    rw [← hW] at r1 r2 hb ⊢
    clear hW
    have R1 := Lib.hid r1; have R2 := Lib.hid r2
    clear r1 r2
    have ki := isHex_any s W hs
    have KI := Lib.hid ki
    clear ki
    cases q with
    | true =>
      have q1 := h1 rfl
      clear h1 h2
      go_wp2_with (first
        | (refine wpList_load_row rfl 41 (.tmp 4) rfl (w.heap.size + 1) rfl 41 (bvs zs20).toArray (0, 0) _ R2.out Tryd.underlying41 rfl zi.out ?_)
        | (refine wpList_store_row rfl 41 (.tmp 2) (.tmp 14) rfl w.heap.size (bvs zs20).toArray rfl rfl 41 _ R1.out zi.out rfl (one_bvs _) ?_))
      refine bodyPost_ret (results_cell_tmp1 rfl _ _ w.heap.size 41 (bvs zs20).toArray (0, 0) _ rfl (setRow_heap _ _ _ _ _ _ R1.out) Tryd.underlying41 rfl zi.out) rfl ?_
      exact ⟨by rw [HP.out]; rfl, below_setRow hb _ (Nat.le_refl _) _⟩
    | false =>
      obtain ⟨q1, q2⟩ := h2 rfl
      clear h1 h2
      rw [q2] at KI
      go_wp2_with (first
        | (go_at_call 43; (with_reducible refine KI.out.mono ?_); rintro e w1 ⟨rfl, rfl⟩)
        | (refine wpList_load_row rfl 41 (.tmp 4) rfl (w.heap.size + 1) rfl 41 (bvs zs20).toArray (0, 0) _ R2.out Tryd.underlying41 rfl zi.out ?_)
        | (refine wpList_store_row rfl 41 (.tmp 2) (.tmp 14) rfl w.heap.size (bvs zs20).toArray rfl rfl 41 _ R1.out zi.out rfl (one_bvs _) ?_))
      refine bodyPost_ret (results_cell_tmp1 rfl _ _ w.heap.size 41 (bvs zs20).toArray (0, 0) _ rfl (setRow_heap _ _ _ _ _ _ R1.out) Tryd.underlying41 rfl zi.out) rfl ?_
      exact ⟨by rw [HP.out]; rfl, below_setRow hb _ (Nat.le_refl _) _⟩
  by_cases h40 : s.size = 40
  · by_cases hh : allHex s.data.toList
    · have q1 : ((s.size : Int) != 40) = false := by simp [h40]
      have q2 : decide (allHex s.data.toList) = true := decide_eq_true hh
      have hp : parseI s.data.toList = (pst s.data.toList 40, 0) := by unfold parseI; rw [if_pos ⟨by omega, hh⟩]
      have HP := Lib.hid hp
      have HH := Lib.hid hh
      clear hp hsl bad hh
      have zi := Lib.hid (info23 zs20 zs20_len)
      go_enter Tryd.func26, Tryd.ntmps26
      go_upto_region 2 with fail
      simp only [zlit]
      obtain ⟨r1, r2, hb⟩ := two_new w 41 (bvs zs20).toArray
      obtain ⟨W, hW⟩ : ∃ W, W = (w.alloc (.cells (bvs zs20).toArray 41)).alloc (.cells (bvs zs20).toArray 41) := ⟨_, rfl⟩
      rw [← hW] at r1 r2 hb ⊢
      clear hW
      have R1 := Lib.hid r1; have R2 := Lib.hid r2
      clear r1 r2
      have ki := isHex_any s W hs
      rw [q2] at ki
      have KI := Lib.hid ki
      have H40 := Lib.hid h40
      clear ki q2
      go_wp2_with (go_at_call 43; (with_reducible refine KI.out.mono ?_); rintro e w1 ⟨rfl, rfl⟩)
      have hsz := h40
      clear h40
      go_loopw [17] (fun t17 wr => ∃ k : Nat, t17 = .int .i64 k ∧ k ≤ 40 ∧ wr.heap[w.heap.size]? = some (.cells (bvs zs20).toArray 41 (0, 0)) ∧ wr.heap[w.heap.size + 1]? = some (.cells (bvs (pst s.data.toList k)).toArray 41 (0, 0)) ∧ Below w.heap.size w wr) (fun t17 _ => 40 - (intOf t17).toNat)
      case atStart => exact ⟨0, rfl, by omega, R1.out, R2.out, hb⟩
      case round =>
        clear R1 R2 hb
        obtain ⟨k, rfl, hk, r1, r2, hb⟩ := hrel
        have R1 := Lib.hid r1; have R2 := Lib.hid r2; have HB := Lib.hid hb
        clear r1 hb
        by_cases hlt : k < 40
        · obtain ⟨j, hj⟩ : ∃ j, j = k / 2 := ⟨_, rfl⟩
          have hkj : (k : Int) / 2 = (j : Int) := by omega
          have hj20 : j < 20 := by omega
          have hji : (j : Int) < 20 := by omega
          have hjz : (0 : Int) ≤ (j : Int) := by omega
          have hwj : IntKind.i64.wrap (j : Int) = (j : Int) := IntWalk.i64_in _ (by omega)
          have hpl := pst_len s.data.toList k
          obtain ⟨x, hx⟩ : ∃ x, x = (pst s.data.toList k).getD j 0 := ⟨_, rfl⟩
          have hcell : wr.cell? ⟨w.heap.size + 1, j, none⟩ = some (.int .u8 (x.toNat : Int)) := by
            rw [cell_of_row _ _ _ _ _ _ r2, hx]
            simp [bvs, bv, hpl, hj20]
          have HJ := Lib.hid hj; have HX := Lib.hid hx
          clear r2 hj hx hpl
          have hks : k < s.size := by rw [H40.out]; exact hlt
          obtain ⟨c, hc⟩ : ∃ c, c = s[k] := ⟨_, rfl⟩
          have hix : ∀ W, (Instr.index 9 (.string s) (.int .i64 (k : Int))).run Tryd.prog W = .ok (.int .u8 (c.toNat : Int)) W := fun W => by
            rw [hc, run_index_string (P := Tryd.prog) (w := W) (t := 9) (s := s) (k := .i64) (i := (k : Int)) (h := Tryd.underlying9), dif_pos (by omega)]; rfl
          have HC := Lib.hid hc
          clear hc
          have hdl := dig_lt c
          have hd0 : 0 ≤ dig c := by rw [HC.out]; exact HH.out _ (str_at s k hks).2
          have ki := idx_dig' c wr.drew
          have hxl := x.toNat_lt
          obtain ⟨d, hd⟩ : ∃ d : Nat, d = (dig c).toNat := ⟨_, rfl⟩
          obtain ⟨p, hp⟩ : ∃ p : Nat, p = x.toNat % 16 * 16 := ⟨_, rfl⟩
          obtain ⟨y, hy⟩ : ∃ y : UInt8, y = UInt8.ofNat (x.toNat % 16 * 16 + (dig c).toNat) := ⟨_, rfl⟩
          have hw1 : IntKind.u8.wrap (dig c) = (d : Int) := by rw [IntWalk.u8_in _ (by omega)]; omega
          have hw2 : IntKind.u8.wrap ((x.toNat : Int) * 16) = (p : Int) := by rw [u8_wrap]; omega
          have hor : bits .or .u8 (p : Int) (d : Int) = (y.toNat : Int) := by
            have h1 := bits_or_nat .u8 8 (by decide) (fun n h0 h1 => IntWalk.u8_in n (by omega)) (a := p) (b := d) (by omega) (by omega)
            have h2 : p ||| d = p + d := by
              have h := Nat.two_pow_add_eq_or_of_lt (i := 4) (b := d) (by omega) (x.toNat % 16)
              rw [show 2 ^ 4 * (x.toNat % 16) = p by omega] at h
              exact h.symm
            rw [h1, h2, hy]
            simp
            omega
          have HY := Lib.hid hy; have HD := Lib.hid hd; have HPP := Lib.hid hp
          have r2' := R2.out
          have hcd : wr.drew.cell? ⟨w.heap.size + 1, j, none⟩ = some (.int .u8 (x.toNat : Int)) := hcell
          have hfz : wr.drew.frozen? ⟨w.heap.size + 1, j, none⟩ = false := frozen_of_row _ _ _ _ _ r2'
          clear hd hp hy r2' hdl hd0
          go_wp2
          refine wp_region_still_tail 14 (by kernel_rfl) (by kernel_rfl) ?_
          simp only [List.take_succ_cons, List.take_zero, List.drop_succ_cons, List.drop_zero]
          repeat still_step
          still_call ki
          repeat still_step
          refine wpStill_nil ?_
          change wpList _ _ _ _ _ wr.drew
          go_wp2
          go_roundw
          case rel =>
            refine ⟨k + 1, by go_num, by omega, ?_, ?_, ?_⟩
            · exact (heap_setCell_ne wr _ _ _ (by simp)).trans R1.out
            · have := heap_setCell_same wr (w.heap.size + 1) j _ 41 (.int .u8 (y.toNat : Int)) R2.out
              refine this.trans ?_
              rw [pst, ← HJ.out, ← HX.out, show s.data.toList.getD k 0 = c by rw [HC.out, List.getD_eq_getElem?_getD, List.getElem?_eq_getElem (by simpa using hks)]; rfl, ← HY.out]
              congr 2
              apply Array.ext'
              simp [bvs, bv, List.map_set]
            · exact ⟨HB.out.os, HB.out.tape, HB.out.output, by simpa using HB.out.size, fun i hi => (heap_setCell_ne wr _ _ _ (by simp; omega)).trans (HB.out.block i hi)⟩
          case measure => simp [intOf]; omega
        · obtain rfl : k = 40 := by omega
          have r2' := R2.out
          have hp' := HP.out
          have hpl := pst_len s.data.toList 40
          clear R2 HP
          generalize pst s.data.toList 40 = t at r2' hp' hpl
          have zp := Lib.hid (info23 t hpl)
          have hzs : (bvs zs20).toArray.size = (bvs t).toArray.size := by simp [zs20_len, hpl]
          have HZ := Lib.hid hzs; have R2 := Lib.hid r2'; have HP := Lib.hid hp'
          clear r2 hzs r2' hp'
          go_wp2_with (first
            | (refine wpList_load_row rfl 41 (.tmp 4) rfl (w.heap.size + 1) rfl 41 (bvs t).toArray (0, 0) _ R2.out Tryd.underlying41 rfl zp.out ?_)
            | (refine wpList_store_row rfl 41 (.tmp 2) (.tmp 35) rfl w.heap.size (bvs t).toArray rfl rfl 41 _ R1.out zp.out HZ.out (one_bvs _) ?_))
          refine bodyPost_ret (results_cell_tmp1 rfl _ _ w.heap.size 41 (bvs t).toArray (0, 0) _ rfl (setRow_heap _ _ _ _ _ _ R1.out) Tryd.underlying41 rfl zp.out) rfl ?_
          exact ⟨by rw [HP.out]; rfl, below_setRow HB.out _ (Nat.le_refl _) _⟩
    · exact bad false (by unfold parseI; rw [if_neg (fun h => hh h.2)]; rfl) (by simp) (fun _ => ⟨by simp [h40], decide_eq_false hh⟩)
  · exact bad true (by unfold parseI; rw [if_neg (by omega)]; rfl) (fun _ => by simp; omega) (by simp)
end Go.Proofs.YtmfhlhjnfaiegaaDoor
