/- refs.Find, refs.Delete (of the last). Conditions: twenty bytes each, at most 255 rows, risen by name. -/
import Derived.Test.YtmfhlhjnfaiegaaDoorSet
namespace Go.Proofs.YtmfhlhjnfaiegaaDoor
open Go.RowKit
set_option maxRecDepth 100000
set_option maxHeartbeats 1000000
set_option linter.unusedVariables false
def findI (l : List Rf) (s : List UInt8) : List UInt8 := if isN l s = true then gtI l (pkN l s) else zs20
theorem look_any (l : List Rf) (h20 : Rf20 l) (hn : l.length ≤ 255) (ris : RisR l) (s : List UInt8) (A : Option Addr) (c : Nat) (w : World) (hA : Sl w A (rfc l)) :
    Calls Tryd.prog 16 #[.slice A l.length c, .string (bstr s)] w fun e w' => e = .returned (.tuple #[idv (findI l s), .bool (isN l s)]) ∧ Below w.heap.size w w' := by
  obtain ⟨W0, hW0⟩ : ∃ W0, W0 = w.alloc (.cells (bvs zs20).toArray 41) := ⟨_, rfl⟩
  have hb0 : Below w.heap.size w W0 := by rw [hW0]; exact (Below.refl _ _).alloc (Nat.le_refl _) _
  have r0 : W0.heap[w.heap.size]? = some (.cells (bvs zs20).toArray 41 (0, 0)) := by rw [hW0]; exact heap_alloc_new _ _
  have A0 := hA.below hb0
  have kf := find_any l h20 (by omega) ris s A c W0 A0
  have hlt : w.heap.size < W0.heap.size := (Array.getElem?_eq_some_iff.1 r0).1
  have zi := Lib.hid (info23 zs20 zs20_len)
  have HW0 := Lib.hid hW0; have HB0 := Lib.hid hb0; have R0 := Lib.hid r0; have H20 := Lib.hid h20; have HA0 := Lib.hid A0; have HLT := Lib.hid hlt
  obtain ⟨n, hnn⟩ : ∃ n, n = l.length := ⟨_, rfl⟩
  have HN := Lib.hid hnn
  rw [← hnn] at kf ⊢
  clear hW0 hb0 r0 hA h20 ris A0 hlt hnn
  cases hi : isN l s with
  | false =>
    rw [hi] at kf
    have HF := Lib.hid (show findI l s = zs20 by rw [findI, hi]; rfl)
    clear hi
    go_enter Tryd.func16, Tryd.ntmps16
    go_upto_region 1 with fail
    simp only [zlit]
    rw [← HW0.out]
    go_wp2_with (first
      | (go_at_call 31; (with_reducible refine kf.mono ?_); rintro e w2 ⟨rfl, hb2⟩
         have R2 := Lib.hid ((hb2.block _ HLT.out).trans R0.out))
      | (refine wpList_store_row rfl 41 (.tmp 4) (.tmp 16) rfl w.heap.size (bvs zs20).toArray rfl rfl 41 _ R2.out zi.out rfl (one_bvs _) ?_))
    refine bodyPost_ret (results_cell_tmp1 rfl _ _ w.heap.size 41 (bvs zs20).toArray (0, 0) _ rfl (setRow_heap _ _ _ _ _ _ R2.out) Tryd.underlying41 rfl zi.out) rfl ?_
    exact ⟨by rw [HF.out]; rfl, below_setRow (HB0.out.trans (hb2.mono HB0.out.size)) _ (Nat.le_refl _) _⟩
  | true =>
    rw [hi] at kf
    obtain ⟨p, hp⟩ : ∃ p, p = pkN l s := ⟨_, rfl⟩
    have hi2 : pkN l s < l.length ∧ gtN l (pkN l s) = s := by
      have := hi
      unfold isN at this
      exact of_decide_eq_true this
    rw [← hp] at hi2 kf
    have hpl : p < l.length := hi2.1
    have hpn : p < n := by rw [HN.out]; exact hpl
    obtain ⟨x, hx⟩ : ∃ x, x = gtR l p := ⟨_, rfl⟩
    have HF := Lib.hid (show findI l s = x.2 by rw [findI, hi, if_pos rfl, ← hp, hx]; rfl)
    obtain ⟨ad, rfl⟩ := rsl_some HA0.out H20.out p hpl
    have RX := rrow HA0.out H20.out p hpl
    have x20 := gtR_20 H20.out p hpl
    rw [← hx] at RX x20
    have IX := rid RX
    have lx : ∀ w', Below W0.heap.size W0 w' → (loadVar 41 ((ad.add (p * 21)).add 1)).run Tryd.prog w' = .ok (idv x.2) w' := fun w' h => load_idT 41 (fun w => by kernel_rfl) (fun w => by kernel_rfl) x.2 x20 _ w' (IX.below h)
    have zx := Lib.hid (info23 x.2 x20)
    have hzs : (bvs zs20).toArray.size = (bvs x.2).toArray.size := by simp [zs20_len, x20]
    have HZ := Lib.hid hzs; have LX := Lib.hid lx
    clear hi hi2 hp hpl hx RX x20 IX lx hzs
    go_enter Tryd.func16, Tryd.ntmps16
    go_upto_region 1 with fail
    simp only [zlit]
    rw [← HW0.out]
    go_wp2_with (first
      | (go_at_call 31; (with_reducible refine kf.mono ?_); rintro e w2 ⟨rfl, hb2⟩
         have R2 := Lib.hid ((hb2.block _ HLT.out).trans R0.out)
         have l2 := LX.out _ hb2)
      | (refine wpList_loadG 41 (.tmp 20) rfl ((ad.add (p * 21)).add 1) rfl (idv x.2) l2 rfl ?_)
      | (refine wpList_store_row rfl 41 (.tmp 4) (.tmp 21) rfl w.heap.size (bvs x.2).toArray rfl rfl 41 _ R2.out zx.out HZ.out (one_bvs _) ?_))
    refine bodyPost_ret (results_cell_tmp1 rfl _ _ w.heap.size 41 (bvs x.2).toArray (0, 0) _ rfl (setRow_heap _ _ _ _ _ _ R2.out) Tryd.underlying41 rfl zx.out) rfl ?_
    exact ⟨by rw [HF.out]; rfl, below_setRow (HB0.out.trans (hb2.mono HB0.out.size)) _ (Nat.le_refl _) _⟩
theorem del_any (l : List Rf) (h20 : Rf20 l) (hn : l.length ≤ 255) (ris : RisR l) (s : List UInt8) (hs : s.length ≤ 1073741824) (hend : isN l s = true → pkN l s + 1 = l.length) (A : Option Addr) (c : Nat) (w : World) (hg : GOk w) (hA : Sl w A (rfc l)) :
    Calls Tryd.prog 17 #[.slice A l.length c, .string (bstr s)] w (OutS (delI l s) w) := by
  have ssz : (bstr s).size = s.length := by show s.toArray.size = _; simp
  have sdl : (bstr s).data.toList = s := by simp
  have kn := name_any (bstr s) (by rw [ssz]; exact hs) w hg
  rw [sdl] at kn
  have kc : ∀ W, Below w.heap.size w W → _ := fun W h => cloneR A c l W (by omega) h20 (hA.below h)
  have kf : ∀ W, Below w.heap.size w W → _ := fun W h => find_any l h20 (by omega) ris s A c W (hA.below h)
  have KC := Lib.hid kc; have KF := Lib.hid kf; have H20 := Lib.hid h20; have HEND := Lib.hid hend
  obtain ⟨n, hnn⟩ : ∃ n, n = l.length := ⟨_, rfl⟩
  have HN := Lib.hid hnn
  clear hg hA ssz sdl kc kf h20 hend hs ris
  cases hq : nameB s with
  | false =>
    rw [hq] at kn
    have HE := Lib.hid (show delI l s = ([], 1) by rw [delI, hq]; rfl)
    rw [← hnn]
    clear hq hnn
    go_enter Tryd.func17, Tryd.ntmps17
    go_wp2_with (go_at_call 13; (with_reducible refine kn.mono ?_); rintro e w1 ⟨rfl, hb1⟩)
    go_ret2
    exact ⟨⟨none, 0, by rw [HE.out]; rfl, by rw [HE.out]; simp, by rw [HE.out]; exact Sl.nil _ _⟩, hb1⟩
  | true =>
    rw [hq] at kn
    cases hi : isN l s with
    | false =>
      have HE := Lib.hid (show delI l s = ([], 6) by rw [delI, hq, hi, if_neg (by decide), if_neg (by decide)])
      have HI := Lib.hid hi
      rw [← hnn]
      clear hq hnn hi
      go_enter Tryd.func17, Tryd.ntmps17
      go_wp2_with (first
        | (go_at_call 13; (with_reducible refine kn.mono ?_); rintro e w1 ⟨rfl, hb1⟩
           have k3 := KF.out _ hb1
           rw [← HN.out, HI.out] at k3)
        | (go_at_call 31; (with_reducible refine k3.mono ?_); rintro e w3 ⟨rfl, hb3⟩))
      go_ret2
      exact ⟨⟨none, 0, by rw [HE.out]; rfl, by rw [HE.out]; simp, by rw [HE.out]; exact Sl.nil _ _⟩, hb1.trans (hb3.mono hb1.size)⟩
    | true =>
      obtain ⟨p, hp⟩ : ∃ p, p = pkN l s := ⟨_, rfl⟩
      have hend := HEND.out hi
      rw [← hp] at hend
      have hpl : p < l.length := by omega
      have hll : l = l.take p ++ [gtR l p] := by
        have e1 : l = l.take p ++ l[p] :: l.drop (p + 1) := by rw [List.getElem_cons_drop, List.take_append_drop]
        rw [List.drop_eq_nil_of_le (by omega)] at e1
        have hg : gtR l p = l[p] := by unfold gtR; rw [List.getD_eq_getElem?_getD, List.getElem?_eq_getElem hpl]; rfl
        rw [hg]; exact e1
      have htl : (l.take p).length = p := by rw [List.length_take, Nat.min_eq_left (by omega)]
      have HE := Lib.hid (show delI l s = (l.take p, 0) by
        rw [delI, hq, hi, if_neg (by decide), if_pos rfl, ← hp, List.drop_eq_nil_of_le (by omega), List.append_nil])
      have HPN := Lib.hid (show (p : Int) + 1 = (n : Int) by omega)
      have hpn : n = (l.take p).length + 1 := by rw [htl, hnn]; omega
      have HPN2 := Lib.hid hpn
      have hp256 : p ≤ 255 := by omega
      obtain ⟨x, hx⟩ : ∃ x, x = gtR l p := ⟨_, rfl⟩
      rw [← hx] at hll
      have h20x : Rf20 (l.take p ++ [x]) := by rw [← hll]; exact H20.out
      have HI := Lib.hid hi; have HP := Lib.hid hp.symm; have HLL := Lib.hid hll; have HTL := Lib.hid htl; have H20X := Lib.hid h20x
      rw [← hnn]
      clear hq hnn hi hp hend hpl hll htl hpn hx h20x
      go_enter Tryd.func17, Tryd.ntmps17
      go_wp2_with (first
        | (go_at_call 13; (with_reducible refine kn.mono ?_); rintro e w1 ⟨rfl, hb1⟩
           have k3 := KF.out _ hb1
           rw [← HN.out, HI.out, HP.out] at k3)
        | (go_at_call 31; (with_reducible refine k3.mono ?_); rintro e w3 ⟨rfl, hb3⟩
           have b3 := hb1.trans (hb3.mono hb1.size)
           have k2 := KC.out _ b3
           rw [← HN.out] at k2)
        | (go_at_call 30; (with_reducible refine k2.mono ?_); rintro e w2 ⟨v2, rfl, hw2, hb2⟩
           obtain ⟨A2, c2, hv2, hc2, _, _⟩ := Win.reads hw2
           rw [← HN.out] at hv2
           subst hv2
           have b2 := b3.trans (hb2.mono b3.size)
           have ki := delR w3.heap.size A2 c2 n (l.take p) x w2 HPN2.out (by rw [HTL.out]; omega) H20X.out (by have := hw2; rw [HLL.out] at this; exact this) hb2.size
           rw [HTL.out] at ki)
        | (go_at_call 33
           simp only [HPN.out]
           (with_reducible refine ki.mono ?_)
           rintro e w5 ⟨c5, rfl, hc5, hw5, hb5⟩
           have b5 := b2.trans (hb5.mono b3.size))
        | (go_at_call 27; (with_reducible refine (clipR A2 p c5 hc5 _).mono ?_); rintro e w6 ⟨rfl, rfl⟩))
      unfold WinR at hw5
      rw [HTL.out] at hw5
      go_ret2
      exact ⟨⟨A2, p, by rw [HE.out, HTL.out]; rfl, by rw [HE.out, HTL.out]; exact Nat.le_refl _, by rw [HE.out]; exact Win.at_ hw5⟩, b5⟩
end Go.Proofs.YtmfhlhjnfaiegaaDoor
