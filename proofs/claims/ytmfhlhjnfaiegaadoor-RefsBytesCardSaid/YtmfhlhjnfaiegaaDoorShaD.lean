/- SHA-1 as the program reckons it: the sum. Conditions: at most 2^40 bytes. -/
import Derived.Test.YtmfhlhjnfaiegaaDoorShaC
import Derived.Laws.Cover3
namespace Go.Proofs.YtmfhlhjnfaiegaaDoor
open Go.RowKit
set_option maxRecDepth 100000
set_option maxHeartbeats 4000000
set_option linter.unusedVariables false
/-- how many bytes a hash has had -/
def cntN (g : Nat) (w : World) : Nat := match w.cell? ⟨g, 69, none⟩ with
  | some (.int _ q) => q.toNat
  | _ => 0
def outN (i : Nat) (s : S5) : List UInt8 := (s.toL.take i).flatMap b4
theorem outN_len (s : S5) (i : Nat) (hi : i ≤ 5) : (outN i s).length = 4 * i := by
  match i, hi with
  | 0, _ => rfl
  | 1, _ => rfl
  | 2, _ => rfl
  | 3, _ => rfl
  | 4, _ => rfl
  | 5, _ => rfl
theorem outN_succ (s : S5) (i : Nat) (hi : i < 5) : outN (i + 1) s = outN i s ++ b4 (s.toL.getD i 0) := by
  match i, hi with
  | 0, _ => rfl
  | 1, _ => rfl
  | 2, _ => rfl
  | 3, _ => rfl
  | 4, _ => rfl
theorem outN_five (s : S5) : outN 5 s = outB s := by simp [outN, outB, S5.toL]
theorem zeros_snoc (z : Nat) : (128 : UInt8) :: List.replicate (z + 1) 0 = (128 :: List.replicate z 0) ++ [0] := by
  rw [List.replicate_succ']; rfl
theorem load_idT (T : Nat) (hagg : ∀ w, (isAgg T).run Tryd.prog w = .ok true w) (hsz : ∀ w, (sizeOf T).run Tryd.prog w = .ok 20 w) (id : List UInt8) (hid : id.length = 20) (ad : Addr) (w : World) (h : Sl w (some ad) (bvs id)) : (loadVar T ad).run Tryd.prog w = .ok (idv id) w := by
  have hl : (loadCells ad (bvs id).length).run Tryd.prog w = .ok (bvs id).toArray w :=
    run_loadCells_list (P := Tryd.prog) w ad (bvs id) (fun j v hv => by obtain ⟨ad', e, hc⟩ := h j v hv; injection e with e; subst e; exact hc)
  rw [bvs_length, hid] at hl
  simp [loadVar, Sem.run_bind, hagg w, hsz w, hl]
theorem hsum_any (g : Nat) (h : Hs) (ok : h.Ok) (hn : h.n ≤ 1099511627000) (w : World) (hg : HRow w g h) :
    Calls Tryd.prog 55 #[.pointer (some ⟨g, 0, none⟩)] w fun e w' => e = .returned (idv (outB (putL h (padB h.n)).words)) ∧ Below w.heap.size w w' := by
  obtain ⟨W0, hW0⟩ : ∃ W0, W0 = w.alloc (.cells (bvs zs20).toArray 41) := ⟨_, rfl⟩
  have hb0 : Below w.heap.size w W0 := by rw [hW0]; exact (Below.refl _ _).alloc (Nat.le_refl _) _
  have r0 : W0.heap[w.heap.size]? = some (.cells (bvs zs20).toArray 41 (0, 0)) := by rw [hW0]; exact heap_alloc_new _ _
  have hs0 : W0.heap.size = w.heap.size + 1 := by rw [hW0]; simp
  have hgl : g < w.heap.size := (Array.getElem?_eq_some_iff.1 hg).1
  have g0 : HRow W0 g h := (hb0.block _ hgl).trans hg
  have kt := twin_any g h ok W0 g0
  have HW0 := Lib.hid hW0; have HB0 := Lib.hid hb0; have R0 := Lib.hid r0; have G0 := Lib.hid g0; have HS0 := Lib.hid hs0
  obtain ⟨g1, hg1⟩ : ∃ g1, g1 = W0.heap.size := ⟨_, rfl⟩
  rw [← hg1] at kt
  have HG1 := Lib.hid hg1
  have hgg : g < g1 := by rw [hg1, hs0]; omega
  clear hW0 hb0 r0 hs0 hg g0 hg1
  go_enter Tryd.func55, Tryd.ntmps55
  go_upto_region 1 with fail
  simp only [zlit]
  rw [← HW0.out]
  go_upto_region 2 with (go_at_call 67; (with_reducible refine kt.mono ?_); rintro e w1 ⟨rfl, q1, b1⟩)
  have h1l : g1 < w1.heap.size := (Array.getElem?_eq_some_iff.1 q1).1
  have ba : Below w1.heap.size w1 (w1.alloc (.cells #[.int .u8 128] 5)) := (Below.refl _ _).alloc (Nat.le_refl _) _
  have kw : Calls Tryd.prog 54 #[.pointer (some ⟨g1, 0, none⟩), .slice (some ⟨w1.heap.size, 0, none⟩) 1 1] (w1.alloc (.cells #[.int .u8 128] 5)) fun e w' => e = .returned (.tuple #[]) ∧ HRow w' g1 (putL h [128]) ∧ Kp (fun k => k = g1) (w1.alloc (.cells #[.int .u8 128] 5)) w' :=
    write_any g1 h ok (some ⟨w1.heap.size, 0, none⟩) 1 [128] (by decide) (by omega) _ ((ba.block _ h1l).trans q1) (Sl.of_block (heap_alloc_new _ _) (one_byte rfl)) (fun ad e _ => by injection e with e; subst e; exact Nat.ne_of_gt h1l)
  go_upto_block 0 with (go_at_call 54; (with_reducible refine kw.mono ?_); rintro e w2 ⟨rfl, q2, k2⟩)
  have b2 : Below g1 W0 w2 := by
    refine (b1.trans (ba.mono (by omega))).trans ?_
    exact k2.toBelow (by simp; omega) (fun k hk e => by omega)
  clear kw kt ba k2 b1 q1
  go_wp2_with fail
  go_loopw [] (fun wr => ∃ z : Nat, z ≤ zpad h.n ∧ Hid (HRow wr g1 (putL h (128 :: List.replicate z 0))) ∧ Below g1 W0 wr) (fun wr => 10000000000000 - cntN g1 wr)
  case atStart => exact ⟨0, by omega, Lib.hid q2, b2⟩
  case round =>
    clear q2 b2
    obtain ⟨z, hz, Q, hbw⟩ := hrel
    have okz := putL_ok (128 :: List.replicate z 0) ok
    have hnz := putL_n (128 :: List.replicate z 0) h
    rw [List.length_cons, List.length_replicate] at hnz
    obtain ⟨m, hm⟩ : ∃ m, m = (putL h (128 :: List.replicate z 0)).n := ⟨_, rfl⟩
    have hmz : m = h.n + (z + 1) := by omega
    have hz64 : zpad h.n < 64 := by unfold zpad; omega
    have hmb : m ≤ 1099511627200 := by omega
    have c69 : wr.cell? ⟨g1, 69, none⟩ = some (.int .i64 (m : Int)) := by
      rw [cell_of_row _ _ _ _ _ _ Q.out, hm]
      exact hcells_n _ okz
    have hcn : cntN g1 wr = m := by unfold cntN; rw [c69]; simp
    have hgw : g1 < wr.heap.size := (Array.getElem?_eq_some_iff.1 Q.out).1
    have HMZ := Lib.hid hmz; have HM := Lib.hid hm; have HCN := Lib.hid hcn; have OKZ := Lib.hid okz
    clear hm hmz hcn hnz okz
    by_cases h56 : m % 64 = 56
    · have hzz : z = zpad h.n := by
        have := HMZ.out
        unfold zpad at *
        omega
      have hi : ((m : Int) % 64 != 56) = false := by
        have : ((m : Int) % 64) = 56 := by omega
        rw [this]; rfl
      have hi2 : ((m : Int) % 64) = 56 := by omega
      have gw : HRow wr g h := (hbw.block _ hgg).trans G0.out
      have c69g : wr.cell? ⟨g, 69, none⟩ = some (.int .i64 (h.n : Int)) := by
        rw [cell_of_row _ _ _ _ _ _ gw]
        exact hcells_n _ ok
      have HZZ := Lib.hid hzz
      obtain ⟨n8, hn8⟩ : ∃ n8, n8 = 8 * h.n := ⟨_, rfl⟩
      have hmul : 8 * (h.n : Int) = (n8 : Int) := by omega
      have kp : Calls Tryd.prog 68 #[.slice none 0 0, .int .i64 (n8 : Int)] wr (Out 5 (be8 n8) wr) := put64_any none 0 [] n8 (by omega) wr (by simp) (Sl.nil _ _)
      have HN8 := Lib.hid hn8
      clear hzz h56 gw hn8
      go_upto_region 6 with (first
        | (go_at_call 68; (with_reducible refine kp.mono ?_); rintro e w3 ⟨v3, rfl, hw3, hb3⟩
           obtain ⟨gv, ov, cv, rfl, hgv, hgvl, _, _⟩ := Win.form hw3 (by simp [be8])
           have kw2 := write_any g1 _ OKZ.out (some ⟨gv, ov, none⟩) cv (be8 n8) (by simp [be8]) (by rw [← HM.out]; omega) w3 ((hb3.block _ hgw).trans Q.out) (Win.at_ hw3) (fun ad e _ => by injection e with e; subst e; exact Nat.ne_of_gt (Nat.lt_of_lt_of_le hgw hgv)))
        | (go_at_call 54; (with_reducible refine kw2.mono ?_); rintro e w4 ⟨rfl, q4, k4⟩))
      have hF : putL (putL h (128 :: List.replicate z 0)) (be8 n8) = putL h (padB h.n) := by
        rw [← putL_app, HZZ.out, HN8.out]; rfl
      rw [hF] at q4
      have okF := putL_ok (padB h.n) ok
      obtain ⟨s, hs⟩ : ∃ s, s = (putL h (padB h.n)).words := ⟨_, rfl⟩
      have oks : s.Ok := by rw [hs]; exact okF.words
      have b3 : Below g1 W0 w3 := hbw.trans (hb3.mono (Nat.le_of_lt hgw))
      have b4 : Below g1 W0 w4 := b3.trans (k4.toBelow (Nat.le_trans (Nat.le_of_lt hgw) hb3.size) (fun k hk e => by omega))
      have sw : Sl w4 (some ⟨g1, 0, none⟩) (wv s.toL) := Sl.of_block q4 (fun j v hj => by
        have hj2 : j < 5 := by
          have := (List.getElem?_eq_some_iff.1 hj).1
          simpa [S5.toL] using this
        simp only [hcells, List.getElem?_toArray, Nat.zero_add]
        rw [List.getElem?_append_left (by simpa [S5.toL] using hj2), ← hs]
        exact hj)
      have z5 : (Tryd.prog.info? 99).map (·.size) = some (wv s.toL).length := by rw [show (wv s.toL).length = 5 by simp [S5.toL]]; kernel_rfl
      have SW := Lib.hid sw; have Z5 := Lib.hid z5; have HS := Lib.hid hs; have OKS := Lib.hid oks; have HB4 := Lib.hid b4
      have r4 : w4.heap[w.heap.size]? = some (.cells (bvs zs20).toArray 41 (0, 0)) := (b4.block _ (by rw [HG1.out, HS0.out]; omega)).trans R0.out
      have RR4 := Lib.hid r4
      have bw4 : Below w.heap.size w w4 := HB0.out.trans (b4.mono (by rw [HG1.out, HS0.out]; omega))
      have BW4 := Lib.hid bw4
      clear hF okF hs oks b3 b4 sw z5 kw2 kp hw3 hb3 q4 k4 hi hi2 hmul hbw hgw c69 c69g Q r4 bw4
      go_wp2_with (refine wpList_load_agg rfl 99 (.tmp 31) rfl ⟨g1, 0, none⟩ rfl (wv s.toL) _ SW.out Tryd.underlying99 rfl Z5.out ?_)
      go_loopw [4, 33] (fun t4 t33 wq => ∃ i : Nat, t33 = .int .i64 (i : Int) ∧ i ≤ 5 ∧ WinB wq w4.heap.size 5 t4 (outN i s) ∧ Below w4.heap.size w4 wq) (fun _ t33 _ => (5 - intOf t33).toNat)
      case atStart => exact ⟨0, rfl, by omega, Win.nil _ _ _ _, Below.refl _ _⟩
      case round =>
        obtain ⟨i, rfl, hi, hw, hbq⟩ := hrel
        by_cases h5 : i < 5
        · have hix := fun w => arr_idx 99 98 5 Tryd.underlying99 (by kernel_rfl) (fun w => by kernel_rfl) (wv s.toL) i h5 _ (wv_get s.toL i (by simpa [S5.toL] using h5)) w
          have hx := toL_lt OKS.out i
          have hsucc := outN_succ s i h5
          have hlen := outN_len s i (by omega)
          generalize s.toL.getD i 0 = x at hix hx hsucc
          obtain ⟨A2, c2, rfl, hc2, _, hA2⟩ := hw.reads
          have kp := put32_any A2 c2 (outN i s) x (by omega) wr (by omega) hA2
          rw [← hsucc] at kp
          have KP := Lib.hid kp
          clear hsucc kp hA2 hlen
          go_wp2_with (go_at_call 69; (with_reducible refine KP.out.mono ?_); rintro e w5 ⟨v5, rfl, hw5, hb5⟩)
          go_roundw
          case rel => exact ⟨i + 1, by simp, by omega, Win.base hw5 hbq.size, hbq.trans (hb5.mono hbq.size)⟩
          case measure => simp only [intOf]; omega
        · obtain rfl : i = 5 := by omega
          rw [outN_five] at hw
          obtain ⟨A2, c2, rfl, hc2, _, hA2⟩ := hw.reads
          obtain ⟨ad, rfl⟩ : ∃ ad, A2 = some ad := by
            cases A2 with
            | some ad => exact ⟨ad, rfl⟩
            | none =>
              obtain ⟨ad, e, _⟩ := hA2 0 _ (List.getElem?_eq_getElem (by rw [bvs_length, outB_len]; decide))
              cases e
          have har := run_arrayAt (P := Tryd.prog) (w := wr) 41 5 20 (some ad) (outB s).length c2 Tryd.underlying41 (by rw [outB_len]; exact Nat.le_refl _)
          have lx := load_idT 41 (fun w => by kernel_rfl) (fun w => by kernel_rfl) (outB s) (outB_len s) ad wr hA2
          have R4 := Lib.hid ((hbq.block _ (Array.getElem?_eq_some_iff.1 RR4.out).1).trans RR4.out)
          have zx := Lib.hid (info23 (outB s) (outB_len s))
          have bb := BW4.out.trans (hbq.mono BW4.out.size)
          have BB := Lib.hid bb
          clear bb hA2 hw hbq
          go_wp2_with (first
            | (refine wpList_loadG 41 (.tmp 42) rfl ad rfl (idv (outB s)) lx rfl ?_)
            | (refine wpList_store_row rfl 41 (.tmp 2) (.tmp 43) rfl w.heap.size (bvs (outB s)).toArray rfl rfl 41 (bvs zs20).toArray R4.out zx.out (by rw [show (bvs (outB s)).toArray.size = 20 by simp [outB_len]]; rfl) (one_bvs _) ?_))
          refine bodyPost_ret (results_cell_row rfl _ _ _ 41 (bvs (outB s)).toArray (0, 0) _ rfl (setRow_heap _ _ _ _ _ _ R4.out) Tryd.underlying41 rfl zx.out) rfl ?_
          exact ⟨by rw [HS.out], below_setRow BB.out _ (Nat.le_refl _) _⟩
    · have hzl : z < zpad h.n := zpad_least h.n z (by have := HMZ.out; omega) hz
      have hi : ((m : Int) % 64 != 56) = true := bne_iff_ne.2 (by omega)
      have hi2 : ¬ ((m : Int) % 64) = 56 := by omega
      have ba : Below wr.heap.size wr (wr.alloc (.cells #[.int .u8 0] 5)) := (Below.refl _ _).alloc (Nat.le_refl _) _
      have kw : Calls Tryd.prog 54 #[.pointer (some ⟨g1, 0, none⟩), .slice (some ⟨wr.heap.size, 0, none⟩) 1 1] (wr.alloc (.cells #[.int .u8 0] 5)) fun e w' => e = .returned (.tuple #[]) ∧ HRow w' g1 (putL (putL h (128 :: List.replicate z 0)) [0]) ∧ Kp (fun k => k = g1) (wr.alloc (.cells #[.int .u8 0] 5)) w' :=
        write_any g1 _ OKZ.out (some ⟨wr.heap.size, 0, none⟩) 1 [0] (by decide) (by rw [← HM.out]; omega) _ ((ba.block _ hgw).trans Q.out) (Sl.of_block (heap_alloc_new _ _) (one_byte rfl)) (fun ad e _ => by injection e with e; subst e; exact Nat.ne_of_gt hgw)
      rw [← putL_app, ← zeros_snoc] at kw
      go_wp2_with (go_at_call 54; (with_reducible refine kw.mono ?_); rintro e w3 ⟨rfl, q3, k3⟩)
      have b3 : Below g1 W0 w3 := (hbw.trans (ba.mono (by omega))).trans (k3.toBelow (by simp; omega) (fun k hk e => by omega))
      have hcn3 : cntN g1 w3 = m + 1 := by
        have ok3 := putL_ok (128 :: List.replicate (z + 1) 0) ok
        have hn3 := putL_n (128 :: List.replicate (z + 1) 0) h
        rw [List.length_cons, List.length_replicate] at hn3
        have := HMZ.out
        unfold cntN
        rw [cell_of_row _ _ _ _ _ _ q3, hcells_n _ ok3]
        simp only [Int.toNat_natCast]
        omega
      go_roundw
      case rel => exact ⟨z + 1, by omega, Lib.hid q3, b3⟩
      case measure => rw [hcn3, HCN.out]; omega
theorem sum_any (A : Option Addr) (c : Nat) (l : List UInt8) (hl : l.length ≤ 1099511627000) (w : World) (hA : Bs w A l) :
    Calls Tryd.prog 37 #[.slice A l.length c] w fun e w' => e = .returned (idv (sha1 l)) ∧ Below w.heap.size w w' := by
  obtain ⟨W0, hW0⟩ : ∃ W0, W0 = w.alloc (.cells (bvs zs20).toArray 41) := ⟨_, rfl⟩
  have hb0 : Below w.heap.size w W0 := by rw [hW0]; exact (Below.refl _ _).alloc (Nat.le_refl _) _
  have r0 : W0.heap[w.heap.size]? = some (.cells (bvs zs20).toArray 41 (0, 0)) := by rw [hW0]; exact heap_alloc_new _ _
  have hsz : w.heap.size < W0.heap.size := (Array.getElem?_eq_some_iff.1 r0).1
  have kn := new_any W0
  have A0 := hA.below hb0
  have hAb : ∀ ad, A = some ad → l ≠ [] → ad.block < w.heap.size := fun ad e hne => by
    cases l with
    | nil => exact absurd rfl hne
    | cons x t =>
      obtain ⟨ad', e', hc⟩ := hA 0 _ rfl
      rw [e] at e'
      injection e' with e'
      subst e'
      have := World.block_lt_of_cell? w _ hc
      rwa [show (ad.add 0).block = ad.block by unfold Addr.add; split <;> rfl] at this
  have HW0 := Lib.hid hW0; have HB0 := Lib.hid hb0; have R0 := Lib.hid r0
  have hsum : ∀ w1 g1, HRow w1 g1 (putL hs0 l) → Calls Tryd.prog 55 #[.pointer (some ⟨g1, 0, none⟩)] w1 fun e w' => e = .returned (idv (sha1 l)) ∧ Below w1.heap.size w1 w' := fun w1 g1 hg => by
    have hn := putL_n l hs0
    have h0 : (hs0).n = 0 := rfl
    have := hsum_any g1 _ (putL_ok l hs0_ok) (by omega) w1 hg
    rw [← putL_app, hn, h0, Nat.zero_add] at this
    exact this
  have HSUM := Lib.hid hsum
  obtain ⟨g1, hg1⟩ : ∃ g1, g1 = W0.heap.size := ⟨_, rfl⟩
  rw [← hg1] at kn
  have HG1 := Lib.hid hg1
  clear hW0 hb0 r0 hA hg1 hsum
  go_enter Tryd.func37, Tryd.ntmps37
  go_upto_region 1 with fail
  simp only [zlit]
  rw [← HW0.out]
  go_upto_region 2 with (go_at_call 53; (with_reducible refine kn.mono ?_); rintro e w1 ⟨rfl, q1, b1⟩)
  have kw := write_any g1 hs0 hs0_ok A c l (by omega) (by decide) w1 q1 (A0.below (by rw [HG1.out] at b1; exact b1)) (fun ad e hne => by have := hAb ad e hne; have := HG1.out; omega)
  go_upto_region 3 with (go_at_call 54; (with_reducible refine kw.mono ?_); rintro e w2 ⟨rfl, q2, k2⟩)
  have ks := HSUM.out w2 g1 q2
  have hg1w : g1 < w1.heap.size := (Array.getElem?_eq_some_iff.1 q1).1
  have b2 : Below g1 W0 w2 := b1.trans (k2.toBelow (Nat.le_of_lt hg1w) (fun k hk e => by omega))
  have R2 := Lib.hid ((b2.block w.heap.size (by rw [HG1.out]; exact hsz)).trans R0.out)
  have bw2 : Below w.heap.size w w2 := HB0.out.trans (b2.mono (by rw [HG1.out]; omega))
  have BW2 := Lib.hid bw2
  have zx := Lib.hid (info23 (sha1 l) (sha1_len l))
  have hz20 : (bvs zs20).toArray.size = (bvs (sha1 l)).toArray.size := by rw [show (bvs (sha1 l)).toArray.size = 20 by simp [sha1_len]]; rfl
  have HZ20 := Lib.hid hz20
  have sl := sha1_len l
  obtain ⟨y, hy⟩ : ∃ y, y = sha1 l := ⟨_, rfl⟩
  rw [← hy] at ks zx HZ20
  have HY := Lib.hid hy
  clear kw kn b1 q1 k2 q2 b2 bw2 hz20 A0 hy sl
  go_wp2_with (first
    | (go_at_call 55; (with_reducible refine ks.mono ?_); rintro e w3 ⟨rfl, hb3⟩
       have R3 := Lib.hid ((hb3.block _ (Array.getElem?_eq_some_iff.1 R2.out).1).trans R2.out))
    | (refine wpList_store_row rfl 41 (.tmp 2) (.tmp 9) rfl w.heap.size (bvs y).toArray rfl rfl 41 (bvs zs20).toArray R3.out zx.out HZ20.out (one_bvs _) ?_))
  refine bodyPost_ret (results_cell_row rfl _ _ _ 41 (bvs y).toArray (0, 0) _ rfl (setRow_heap _ _ _ _ _ _ R3.out) Tryd.underlying41 rfl zx.out) rfl ?_
  exact ⟨by rw [HY.out], below_setRow (BW2.out.trans (hb3.mono BW2.out.size)) _ (Nat.le_refl _) _⟩
end Go.Proofs.YtmfhlhjnfaiegaaDoor
