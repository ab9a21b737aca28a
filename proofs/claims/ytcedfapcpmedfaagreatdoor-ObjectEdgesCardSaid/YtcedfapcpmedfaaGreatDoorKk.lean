/- object.DecodeTree: decTr. Conditions: what the library's variables hold; at most 2^30 bytes.
   The reference's Order, rising, said, EncodeTree: oI, ordE, treeB, encTr. Conditions: twenty bytes each, names of at most 2^20 bytes, fewer than 100000 entries.
   The reference's said, EncodeTree: treeB, encTr; the law's Entries. Conditions: twenty bytes each, names of at most 2^20 bytes, fewer than 100000 entries.
   What the row's own list says of the library's table of bits. No condition.
   An argument of the type of rows of entries, as the row's frame hands it over. No condition. -/
import Derived.Test.YtcedfapcpmedfaaGreatDoorKj
import Derived.Test.YtcedfapcpmedfaaGreatDoorKg
import Derived.Test.YtcedfapcpmedfaaGreatDoorKe
import Derived.Deep.Slices
import Derived.OpenShut
namespace Go.Proofs.YtcedfapcpmedfaaGreatDoor
section
open Go.RowKit
set_option maxRecDepth 100000
set_option maxHeartbeats 8000000
set_option linter.unusedVariables false
def mSl (v : Value) : Nat := match v with
  | .slice _ n _ => n
  | _ => 0
theorem clipE_any (A : Option Addr) (n c : Nat) (h : n ≤ c) (w : World) : Calls Tryz.prog 80 #[.slice A n c] w fun e w' => e = .returned (.slice A n n) ∧ w = w' := by
  go_enter Tryz.func80, Tryz.ntmps80
  go_wp2
  go_ret
  exact ⟨rfl, rfl⟩
theorem entI_ok {s hd rest : List UInt8} (h1 : (Lib.cut s [0]).2.2 = true) (hh : hd = (Lib.cut s [0]).1) (hr : rest = (Lib.cut s [0]).2.1) :
    entI s = if (Lib.cut hd [32]).2.2 = true ∧ (modeI (Lib.cut hd [32]).1).2 = true ∧ namedI (Lib.cut hd [32]).2.1 = true ∧ 20 ≤ rest.length then some (⟨((modeI (Lib.cut hd [32]).1).1 : Int), (Lib.cut hd [32]).2.1, rest.take 20⟩, rest.drop 20) else none := by
  unfold entI
  rw [← hh, ← hr]
  by_cases hc : (Lib.cut hd [32]).2.2 = true ∧ (modeI (Lib.cut hd [32]).1).2 = true ∧ namedI (Lib.cut hd [32]).2.1 = true ∧ 20 ≤ rest.length
  · rw [if_pos hc, if_pos ⟨h1, hc⟩]
  · rw [if_neg hc, if_neg (fun h => hc h.2)]
theorem decTr_long (b : List UInt8) (hb : b.length ≤ 1073741824) (h : 16384 < b.length) (A : Option Addr) (cap : Nat) (w : World) :
    Calls Tryz.prog 34 #[.slice A b.length cap] w (OutN (decTr b).1 (decTr b).2 w) := by
  have e : Hid (decTr b = ([], 5)) := Lib.hid (if_pos h)
  obtain ⟨n, hn⟩ : ∃ n, n = b.length := ⟨_, rfl⟩
  rw [← hn] at h hb ⊢
  have d1 : decide ((16384 : Int) < (n : Int)) = true := decide_eq_true (by omega)
  clear hn
  go_enter Tryz.func34, Tryz.ntmps34
  go_wp2
  go_ret2
  rw [e.out]
  exact ⟨⟨none, 0, rfl, Nat.le_refl _, Sl.nil _ _⟩, Below.refl _ _⟩
theorem decTr_any (b : List UInt8) (hb : b.length ≤ 16384) (A : Option Addr) (cap : Nat) (hcap : b.length ≤ cap) (h0 : A = none → cap = 0) (w : World) (hg : Gb w) (hz : Gz w) (hA : Bs w A b) :
    Calls Tryz.prog 34 #[.slice A b.length cap] w (OutN (decTr b).1 (decTr b).2 w) := by
  have HD : Hid (decTr b = match entsF b with
    | none => ([], 2)
    | some l => if ordE [] l = false then ([], 2) else if 512 < l.length then ([], 5) else (l, 0)) := Lib.hid (by rw [decTr_eq, if_neg (by omega)]; cases entsF b <;> rfl)
  obtain ⟨n, hn⟩ : ∃ n, n = b.length := ⟨_, rfl⟩
  rw [← hn] at hb hcap ⊢
  have HN := Lib.hid hn; have HA := Lib.hid hA; have HG := Lib.hid hg; have HZ := Lib.hid hz; have HC := Lib.hid hcap; have H0 := Lib.hid h0
  have d1 : decide ((16384 : Int) < (n : Int)) = false := decide_eq_false (by omega)
  have EF := Lib.hid (show entsF b = (entsF b).map ([] ++ ·) by cases entsF b <;> simp)
  clear hn hA hg hz hcap h0
  go_enter Tryz.func34, Tryz.ntmps34
  go_upto_block 0 with fail
  go_step
  go_loopw [0, 4] (fun t0 t4 wr => ∃ (s : List UInt8) (p : List En) (A' : Option Addr) (c' m : Nat), t0 = .slice A' m c' ∧ m = s.length ∧ m ≤ c' ∧ Hid (A' = none → c' = 0) ∧ Hid (Bs w A' s) ∧ Hid (WinO wr w.heap.size t4 p) ∧ p.length * 22 + m ≤ n ∧ Hid (EAll p ∧ ∀ e ∈ p, e.name.length ≤ 100) ∧ Hid (entsF b = (entsF s).map (p ++ ·)) ∧ Hid (Below w.heap.size w wr)) (fun t0 _ _ => mSl t0)
  case atStart => exact ⟨b, [], A, cap, n, rfl, HN.out, HC.out, H0, HA, Lib.hid (Win.nil _ _ _ _), by simp, Lib.hid ⟨fun e he => by simp at he, fun e he => by simp at he⟩, EF, Lib.hid (Below.refl _ _)⟩
  case round =>
    obtain ⟨s, p, A', c', m, rfl, hm, hmc, HA0, HS, HW, hpn, HP, HT, HBW⟩ := hrel
    by_cases hs0 : m = 0
    · have hsn : s = [] := List.eq_nil_of_length_eq_zero (by rw [← hm, hs0])
      have HX : Hid (decTr b = if ordE [] p = false then ([], 2) else if 512 < p.length then ([], 5) else (p, 0)) := Lib.hid (by
        rw [HD.out, HT.out, hsn, entsF_nil]
        simp)
      obtain ⟨hp1, hp2⟩ := HP.out
      obtain ⟨np, hnp⟩ : ∃ np, np = p.length := ⟨_, rfl⟩
      have hpl : np ≤ 800 := by rw [hnp]; omega
      obtain ⟨Ap, cp, rfl, hcp, _, hsp⟩ := HW.out.reads
      have ko := ordered_any p hp1 (fun e he => by have := hp2 e he; omega) (by omega) Ap cp wr hsp
      rw [← hnp] at ko hcp
      have kcl := fun w' => clipE_any Ap np cp hcp w'
      rw [← hnp]
      have HNP := Lib.hid hnp; have HSP := Lib.hid hsp
      obtain ⟨r, hr⟩ : ∃ r, r = ordE [] p := ⟨_, rfl⟩
      rw [← hr] at ko HX
      rw [← hnp] at HX
      subst hs0
      clear hsn hp1 hp2 hnp hsp hr hm hmc hpn HW HP HT HA0 HS hcp
      cases r with
      | false =>
        have HDF : Hid (decTr b = ([], 2)) := Lib.hid (by rw [HX.out, if_pos rfl])
        go_wp2_with (go_at_call 79; (with_reducible refine ko.mono ?_); rintro z w1 ⟨rfl, hb1⟩)
        go_ret2
        rw [HDF.out]
        exact ⟨⟨none, 0, rfl, Nat.le_refl _, Sl.nil _ _⟩, HBW.out.trans (hb1.mono HBW.out.size)⟩
      | true =>
        by_cases hbig : 512 < np
        · have HDF : Hid (decTr b = ([], 5)) := Lib.hid (by rw [HX.out, if_neg (by decide), if_pos hbig])
          have q1 : decide ((512 : Int) < (np : Int)) = true := decide_eq_true (by omega)
          go_wp2_with (go_at_call 79; (with_reducible refine ko.mono ?_); rintro z w1 ⟨rfl, hb1⟩)
          go_ret2
          rw [HDF.out]
          exact ⟨⟨none, 0, rfl, Nat.le_refl _, Sl.nil _ _⟩, HBW.out.trans (hb1.mono HBW.out.size)⟩
        · have HDF : Hid (decTr b = (p, 0)) := Lib.hid (by rw [HX.out, if_neg (by decide), if_neg hbig])
          have q1 : decide ((512 : Int) < (np : Int)) = false := decide_eq_false (by omega)
          go_wp2_with (first
            | (go_at_call 79; (with_reducible refine ko.mono ?_); rintro z w1 ⟨rfl, hb1⟩)
            | (go_at_call 80; (with_reducible refine (kcl _).mono ?_); rintro z w2 ⟨rfl, rfl⟩))
          go_ret2
          rw [HDF.out]
          exact ⟨⟨Ap, np, by rw [← HNP.out]; rfl, Nat.le_of_eq HNP.out.symm, HSP.out.below hb1⟩, HBW.out.trans (hb1.mono HBW.out.size)⟩
    · have q0 : decide ((0 : Int) < (m : Int)) = true := decide_eq_true (by omega)
      have q0n : decide (0 < m) = true := decide_eq_true (by omega)
      have hsne : s ≠ [] := fun e => hs0 (by rw [hm, e]; rfl)
      have ba : Below wr.heap.size wr (wr.alloc (.cells #[.int .u8 0] 5)) := (Below.refl _ _).alloc (Nat.le_refl _) _
      have hgw := HG.out.below HBW.out
      have hzw := HZ.out.below HBW.out
      have kc := cutB_any s 0 (by omega) A' (some ⟨wr.heap.size, 0, none⟩) m c' 1 hm hmc HA0.out (wr.alloc (.cells #[.int .u8 0] 5)) (hgw.below ba) (HS.out.below (HBW.out.trans (ba.mono HBW.out.size))) (Sl.of_block (heap_alloc_new _ _) (one_byte rfl))
      have HG := Lib.hid hgw; have HZ := Lib.hid hzw; have BA := Lib.hid ba; have HM := Lib.hid hm
      clear hgw hzw ba
      cases h1 : (Lib.cut s [0]).2.2 with
      | false =>
        rw [h1, if_neg (by decide)] at kc
        have HDF : Hid (decTr b = ([], 2)) := Lib.hid (by
          rw [HD.out, HT.out, entsF_none hsne (by unfold entI; rw [if_neg (fun h => by rw [h1] at h; exact absurd h.1 (by decide))])]
          rfl)
        have ks := fun w (h : Gb w) => cutS_any s [32] (by omega) w h
        obtain ⟨dg, hdg⟩ : ∃ dg, dg = (Lib.cut s [32]).1 := ⟨_, rfl⟩
        obtain ⟨nm, hnm⟩ : ∃ nm, nm = (Lib.cut s [32]).2.1 := ⟨_, rfl⟩
        obtain ⟨two, htwo⟩ : ∃ two, two = (Lib.cut s [32]).2.2 := ⟨_, rfl⟩
        rw [← hdg, ← hnm, ← htwo] at ks
        have km := fun w h => modeOf_any dg w h
        obtain ⟨mk, hmk⟩ : ∃ mk, mk = (modeI dg).1 := ⟨_, rfl⟩
        obtain ⟨is, his⟩ : ∃ is, is = (modeI dg).2 := ⟨_, rfl⟩
        rw [← hmk, ← his] at km
        have HHD : Hid (∀ w', Below wr.heap.size wr w' → Bs w' A' s) := Lib.hid (fun w' h => HS.out.below (HBW.out.trans (h.mono HBW.out.size)))
        have HHN := HM
        clear h1 hdg hnm htwo hmk his hm hsne hs0
        go_wp2_with (first
                    | (go_at_call 57
                       go_loud ((with_reducible refine kc.mono ?_); rintro z w1 ⟨rfl, hb1⟩
                                have bb1 := BA.out.trans (hb1.mono BA.out.size)
                                have hcv := conv34 (c := c') (HHD.out w1 bb1) HHN.out))
                    | (go_at_call 58; (with_reducible refine (ks _ (HG.out.below bb1)).mono ?_); rintro z w2 ⟨rfl, hb2⟩
                       have bb := bb1.trans (hb2.mono bb1.size))
                    | (go_at_call 77; (with_reducible refine (km _ (HZ.out.below bb)).mono ?_); rintro z w3 ⟨rfl, hb3⟩
                       have bb3 := bb.trans (hb3.mono bb.size)))
        go_ret2
        rw [HDF.out]
        exact ⟨⟨none, 0, rfl, Nat.le_refl _, Sl.nil _ _⟩, HBW.out.trans (bb3.mono HBW.out.size)⟩
      | true =>
        rw [h1, if_pos rfl] at kc
        obtain ⟨ex, hno⟩ := cut_whole h1
        obtain ⟨hd, hhd⟩ : ∃ hd, hd = (Lib.cut s [0]).1 := ⟨_, rfl⟩
        obtain ⟨rs, hrs⟩ : ∃ rs, rs = (Lib.cut s [0]).2.1 := ⟨_, rfl⟩
        have hei := entI_ok h1 hhd hrs
        rw [← hhd, ← hrs] at kc ex
        have HHD : Hid (∀ w', Below wr.heap.size wr w' → Bs w' A' hd) := Lib.hid (fun w' h => by
          have : Bs w' A' (s.take hd.length) := Bs.take (HS.out.below (HBW.out.trans (h.mono HBW.out.size))) hd.length
          rwa [ex, List.take_left] at this)
        have HB0 : Hid (Bs w (cutA A' c' (hd.length + 1) 1) rs) := Lib.hid (by
          have : Bs w (cutA A' c' (hd.length + 1) 1) (s.drop (hd.length + 1)) := Bs.cut HS.out (hd.length + 1) c' (by rw [← hm]; exact hmc)
          rwa [ex, ← List.drop_drop, List.drop_left] at this)
        have hlx := congrArg List.length ex
        rw [List.length_append, List.length_cons, ← hm] at hlx
        have ks := fun w (h : Gb w) => cutS_any hd [32] (by omega) w h
        obtain ⟨dg, hdg⟩ : ∃ dg, dg = (Lib.cut hd [32]).1 := ⟨_, rfl⟩
        obtain ⟨nm, hnm⟩ : ∃ nm, nm = (Lib.cut hd [32]).2.1 := ⟨_, rfl⟩
        obtain ⟨two, htwo⟩ : ∃ two, two = (Lib.cut hd [32]).2.2 := ⟨_, rfl⟩
        have hnml : nm.length ≤ 1073741824 := by
          rw [hnm]
          cases ht : (Lib.cut hd [32]).2.2 with
          | true => have := cut_len ht; omega
          | false =>
            rcases two_ways 32 hd with h | ⟨x, y, e, h⟩
            · rw [cut_no h]; simp
            · rw [e, cut_yes y h] at ht; cases ht
        rw [← hdg, ← hnm, ← htwo] at ks hei
        have km := fun w h => modeOf_any dg w h
        have kn := fun w => named_any nm w hnml
        obtain ⟨mk, hmk⟩ : ∃ mk, mk = (modeI dg).1 := ⟨_, rfl⟩
        obtain ⟨is, his⟩ : ∃ is, is = (modeI dg).2 := ⟨_, rfl⟩
        obtain ⟨nd, hnd⟩ : ∃ nd, nd = namedI nm := ⟨_, rfl⟩
        rw [← hmk, ← his, ← hnd] at hei
        rw [← hmk, ← his] at km
        rw [← hnd] at kn
        obtain ⟨m1, hm1⟩ : ∃ m1, m1 = hd.length := ⟨_, rfl⟩
        obtain ⟨m2, hm2⟩ : ∃ m2, m2 = rs.length := ⟨_, rfl⟩
        rw [← hm1, ← hm2] at kc hlx
        rw [← hm2] at hei
        obtain ⟨A2, hA2⟩ : ∃ A2, A2 = cutA A' c' (m1 + 1) 1 := ⟨_, rfl⟩
        obtain ⟨c2, hc2⟩ : ∃ c2, c2 = c' - (m1 + 1) := ⟨_, rfl⟩
        have hA20 : A2 = none → c2 = 0 := fun e => by
          rw [hA2] at e
          unfold cutA at e
          split at e
          · rw [hc2, HA0.out e]; omega
          · cases hA' : A' with
            | none => rw [hc2, HA0.out hA']; omega
            | some ad => rw [hA'] at e; cases e
        have hc2m : m2 ≤ c2 := by omega
        rw [← hm1, ← hA2] at HB0
        have HB : Hid (∀ w', Below wr.heap.size wr w' → Bs w' A2 rs) := Lib.hid (fun w' h => HB0.out.below (HBW.out.trans (h.mono HBW.out.size)))
        rw [← hA2, ← hc2] at kc
        have hl1 : m1 < m := by omega
        have hl2 : m2 < m := by omega
        have HLX := Lib.hid hlx
        have HHN : Hid (m1 = hd.length) := Lib.hid hm1
        have HM2 : Hid (m2 = rs.length) := Lib.hid hm2
        have HEI := Lib.hid hei; have HSN := Lib.hid hsne; have HND := Lib.hid hnd; have HA20 := Lib.hid hA20
        have HDN : Hid (entI s = none → decTr b = ([], 2)) := Lib.hid (fun h => by rw [HD.out, HT.out, entsF_none HSN.out h]; rfl)
        clear hei h1 ex hno hhd hrs hdg hnm htwo hmk his hnd hm1 hm2 hA2 hc2 hm hsne hs0 hnml hA20 hlx
        cases two with
        | false =>
          have HDF : Hid (decTr b = ([], 2)) := Lib.hid (HDN.out (by rw [HEI.out, if_neg (fun h => absurd h.1 (by decide))]))
          go_wp2_with (first
                      | (go_at_call 57
                         go_loud ((with_reducible refine kc.mono ?_); rintro z w1 ⟨rfl, hb1⟩
                                  have bb1 := BA.out.trans (hb1.mono BA.out.size)
                                  have hcv := conv34 (c := c') (HHD.out w1 bb1) HHN.out))
                      | (go_at_call 58; (with_reducible refine (ks _ (HG.out.below bb1)).mono ?_); rintro z w2 ⟨rfl, hb2⟩
                         have bb := bb1.trans (hb2.mono bb1.size))
                      | (go_at_call 77; (with_reducible refine (km _ (HZ.out.below bb)).mono ?_); rintro z w3 ⟨rfl, hb3⟩
                         have bb3 := bb.trans (hb3.mono bb.size))
                      | (go_at_call 78; (with_reducible refine (kn _).mono ?_); rintro z w4 ⟨rfl, rfl⟩))
          go_ret2
          rw [HDF.out]
          exact ⟨⟨none, 0, rfl, Nat.le_refl _, Sl.nil _ _⟩, HBW.out.trans (bb3.mono HBW.out.size)⟩
        | true =>
          cases is with
          | false =>
            have HDF : Hid (decTr b = ([], 2)) := Lib.hid (HDN.out (by rw [HEI.out, if_neg (fun h => absurd h.2.1 (by decide))]))
            go_wp2_with (first
                        | (go_at_call 57
                           go_loud ((with_reducible refine kc.mono ?_); rintro z w1 ⟨rfl, hb1⟩
                                    have bb1 := BA.out.trans (hb1.mono BA.out.size)
                                    have hcv := conv34 (c := c') (HHD.out w1 bb1) HHN.out))
                        | (go_at_call 58; (with_reducible refine (ks _ (HG.out.below bb1)).mono ?_); rintro z w2 ⟨rfl, hb2⟩
                           have bb := bb1.trans (hb2.mono bb1.size))
                        | (go_at_call 77; (with_reducible refine (km _ (HZ.out.below bb)).mono ?_); rintro z w3 ⟨rfl, hb3⟩
                           have bb3 := bb.trans (hb3.mono bb.size))
                        | (go_at_call 78; (with_reducible refine (kn _).mono ?_); rintro z w4 ⟨rfl, rfl⟩))
            go_ret2
            rw [HDF.out]
            exact ⟨⟨none, 0, rfl, Nat.le_refl _, Sl.nil _ _⟩, HBW.out.trans (bb3.mono HBW.out.size)⟩
          | true =>
            cases nd with
            | false =>
              have HDF : Hid (decTr b = ([], 2)) := Lib.hid (HDN.out (by rw [HEI.out, if_neg (fun h => absurd h.2.2.1 (by decide))]))
              go_wp2_with (first
                          | (go_at_call 57
                             go_loud ((with_reducible refine kc.mono ?_); rintro z w1 ⟨rfl, hb1⟩
                                      have bb1 := BA.out.trans (hb1.mono BA.out.size)
                                      have hcv := conv34 (c := c') (HHD.out w1 bb1) HHN.out))
                          | (go_at_call 58; (with_reducible refine (ks _ (HG.out.below bb1)).mono ?_); rintro z w2 ⟨rfl, hb2⟩
                             have bb := bb1.trans (hb2.mono bb1.size))
                          | (go_at_call 77; (with_reducible refine (km _ (HZ.out.below bb)).mono ?_); rintro z w3 ⟨rfl, hb3⟩
                             have bb3 := bb.trans (hb3.mono bb.size))
                          | (go_at_call 78; (with_reducible refine (kn _).mono ?_); rintro z w4 ⟨rfl, rfl⟩))
              go_ret2
              rw [HDF.out]
              exact ⟨⟨none, 0, rfl, Nat.le_refl _, Sl.nil _ _⟩, HBW.out.trans (bb3.mono HBW.out.size)⟩
            | true =>
              by_cases hsh : m2 < 20
              · have HDF : Hid (decTr b = ([], 2)) := Lib.hid (HDN.out (by rw [HEI.out, if_neg (fun h => absurd h.2.2.2 (by omega))]))
                have q1 : decide ((m2 : Int) < 20) = true := decide_eq_true (by omega)
                go_wp2_with (first
                            | (go_at_call 57
                               go_loud ((with_reducible refine kc.mono ?_); rintro z w1 ⟨rfl, hb1⟩
                                        have bb1 := BA.out.trans (hb1.mono BA.out.size)
                                        have hcv := conv34 (c := c') (HHD.out w1 bb1) HHN.out))
                            | (go_at_call 58; (with_reducible refine (ks _ (HG.out.below bb1)).mono ?_); rintro z w2 ⟨rfl, hb2⟩
                               have bb := bb1.trans (hb2.mono bb1.size))
                            | (go_at_call 77; (with_reducible refine (km _ (HZ.out.below bb)).mono ?_); rintro z w3 ⟨rfl, hb3⟩
                               have bb3 := bb.trans (hb3.mono bb.size))
                            | (go_at_call 78; (with_reducible refine (kn _).mono ?_); rintro z w4 ⟨rfl, rfl⟩))
                go_ret2
                rw [HDF.out]
                exact ⟨⟨none, 0, rfl, Nat.le_refl _, Sl.nil _ _⟩, HBW.out.trans (bb3.mono HBW.out.size)⟩
              · have q1 : decide ((m2 : Int) < 20) = false := decide_eq_false (by omega)
                obtain ⟨e, he⟩ : ∃ e : En, e = ⟨(mk : Int), nm, rs.take 20⟩ := ⟨_, rfl⟩
                have hes : entI s = some (e, rs.drop 20) := by rw [HEI.out, if_pos ⟨rfl, rfl, rfl, by omega⟩, he]
                have HT2 : Hid (entsF b = (entsF (rs.drop 20)).map ((p ++ [e]) ++ ·)) := Lib.hid (by
                  rw [HT.out, entsF_some HSN.out hes]
                  cases entsF (rs.drop 20) <;> simp)
                have e20 : e.id.length = 20 := by rw [he]; simp only [List.length_take]; have := HM2.out; omega
                have HR20 : Hid ((rs.take 20).length = 20) := Lib.hid (by rw [List.length_take]; have := HM2.out; omega)
                have HE20 := Lib.hid e20; have HEE := Lib.hid he
                have HP2 : Hid (EAll (p ++ [e]) ∧ ∀ x ∈ p ++ [e], x.name.length ≤ 100) := Lib.hid ⟨fun x hx => by
                  rcases List.mem_append.1 hx with hx | hx
                  · exact HP.out.1 x hx
                  · rw [List.mem_singleton.1 hx]; exact HE20.out, fun x hx => by
                  rcases List.mem_append.1 hx with hx | hx
                  · exact HP.out.2 x hx
                  · rw [List.mem_singleton.1 hx, HEE.out]; exact (named_no HND.out.symm).2⟩
                obtain ⟨ad2, had2⟩ : ∃ ad2, A2 = some ad2 := by
                  cases hA : A2 with
                  | some ad => exact ⟨ad, rfl⟩
                  | none => have := HA20.out hA; omega
                subst had2
                have hel := (ent_len hes).1
                rw [List.length_drop, ← HM2.out, ← HM.out] at hel
                have HEL := Lib.hid hel
                clear hes e20 he HT HP HEI HDN HD hel
                go_wp2_with (first
                  | (go_at_call 57
                     go_loud ((with_reducible refine kc.mono ?_); rintro z w1 ⟨rfl, hb1⟩
                              have bb1 := BA.out.trans (hb1.mono BA.out.size)
                              have hcv := conv34 (c := c') (HHD.out w1 bb1) HHN.out))
                  | (go_at_call 58; (with_reducible refine (ks _ (HG.out.below bb1)).mono ?_); rintro z w2 ⟨rfl, hb2⟩
                     have bb := bb1.trans (hb2.mono bb1.size))
                  | (go_at_call 77; (with_reducible refine (km _ (HZ.out.below bb)).mono ?_); rintro z w3 ⟨rfl, hb3⟩
                     have bb3 := bb.trans (hb3.mono bb.size)
                     have BB3 := Lib.hid bb3
                     have l3 := load_id (rs.take 20) HR20.out _ _ (Bs.take (HB.out w3 bb3) 20))
                  | (go_at_call 78; (with_reducible refine (kn _).mono ?_); rintro z w4 ⟨rfl, rfl⟩)
                  | (refine wpList_arrp rfl 27 5 20 (.tmp 62) rfl Tryz.underlying27 (some ad2) 20 c2 rfl (Nat.le_refl _) ?_)
                  | (refine wpList_loadG 27 (.tmp 63) rfl ad2 rfl _ l3 rfl ?_)
                  | (refine wpList_buildO3 rfl (.tmp 59) (.tmp 60) (.tmp 64) rfl e HE20.out (by rw [HEE.out]; rfl) (by rw [HEE.out]; rfl) (by rw [HEE.out]; rfl) ?_)
                  | (refine wpList_oneO rfl (.tmp 65) rfl e HE20.out rfl ?_)
                  | (refine wpList_appO rfl (.tmp 58) (.tmp 66) rfl w.heap.size u4 p rfl ((HW.out.below BB3.out).below ((Below.refl _ _).alloc (Nat.le_refl _) _)) (some ⟨w3.heap.size, 0, none⟩) 1 1 [e] rfl (fun x hx => by rw [List.mem_singleton.1 hx]; exact HE20.out) rfl
                      (by rw [ecs_single]; exact Sl.of_block (heap_alloc_new _ _) (fun j v hj => by simpa using hj)) (by simp only [List.length_singleton]; omega) (by have := HBW.out.size; have := BB3.out.size; simp; omega) ?_
                     intro v5 w5 hw5 hk5 ho5))
                have hcut : (if c2 = 20 then some ad2 else some ⟨ad2.block, ad2.off + 20, none⟩) = cutA (some ad2) c2 20 1 := by unfold cutA; simp [Addr.add]
                have b5 : Below w.heap.size w w5 := (HBW.out.trans ((BB3.out.alloc BB3.out.size _).mono HBW.out.size)).trans (hk5.toBelow (by have := HBW.out.size; have := BB3.out.size; simp; omega) (fun k hk h => by have := (HW.out.block _ h).1; omega))
                rw [hcut]
                refine ⟨⟨rs.drop 20, p ++ [e], cutA (some ad2) c2 20 1, c2 - 20, m2 - 20, rfl, by rw [List.length_drop, ← HM2.out], by omega, Lib.hid (fun h => ?_), Lib.hid (Bs.cut HB0.out 20 c2 (by rw [← HM2.out]; omega)), Lib.hid hw5, ?_, HP2, HT2, Lib.hid b5⟩, ?_⟩
                · unfold cutA at h
                  split at h
                  · omega
                  · cases h
                · simp only [List.length_append, List.length_singleton]; have := HEL.out; omega
                · simp only [mSl]; omega
end
section
open Go.RowKit
set_option maxRecDepth 100000
set_option maxHeartbeats 4000000
set_option linter.unusedVariables false
theorem orderR_any (a b : En) (ha : a.id.length = 20) (hb : b.id.length = 20) (hs : a.name.length ≤ 1048576) (ht : b.name.length ≤ 1048576) (w : World) :
    Calls Tryz.prog 48 #[ev a, ev b] w fun z w' => z = .returned (.int .i64 (oI a b)) ∧ Below w.heap.size w w' := by
  obtain ⟨W0, hW0⟩ : ∃ W0, W0 = (w.alloc (.cells (ecell a).toArray 80)).alloc (.cells (ecell b).toArray 80) := ⟨_, rfl⟩
  have b1 : Below w.heap.size w (w.alloc (.cells (ecell a).toArray 80)) := (Below.refl _ _).alloc (Nat.le_refl _) _
  have b2 : Below (w.alloc (.cells (ecell a).toArray 80)).heap.size (w.alloc (.cells (ecell a).toArray 80)) W0 := by rw [hW0]; exact (Below.refl _ _).alloc (Nat.le_refl _) _
  have s1 : Sl W0 (some ⟨w.heap.size, 0, none⟩) (ecell a) := Sl.below (Sl.of_block (heap_alloc_new _ _) (fun j v hj => by simpa using hj)) b2
  have s2 : Sl W0 (some ⟨w.heap.size + 1, 0, none⟩) (ecell b) := by
    have := Sl.of_block (off := 0) (l := ecell b) (heap_alloc_new (w.alloc (.cells (ecell a).toArray 80)) (.cells (ecell b).toArray 80)) (fun j v hj => by simpa using hj)
    rw [← hW0] at this
    simpa using this
  have l1 : ∀ w', Below W0.heap.size W0 w' → (loadVar 80 ⟨w.heap.size, 0, none⟩).run Tryz.prog w' = .ok (ev a) w' := fun w' h => load_entR ha (s1.below h)
  have l2 : ∀ w', Below W0.heap.size W0 w' → (loadVar 80 ⟨w.heap.size + 1, 0, none⟩).run Tryz.prog w' = .ok (ev b) w' := fun w' h => load_entR hb (s2.below h)
  have c1 := fun w' => keyR_any a (by omega) w'
  have c2 := fun w' => keyR_any b (by omega) w'
  have bw : Below w.heap.size w W0 := b1.trans (b2.mono b1.size)
  have HW0 := Lib.hid hW0; have BW := Lib.hid bw; have L1 := Lib.hid l1; have L2 := Lib.hid l2
  obtain ⟨va, hva⟩ : ∃ va, va = ev a := ⟨_, rfl⟩
  obtain ⟨vb, hvb⟩ : ∃ vb, vb = ev b := ⟨_, rfl⟩
  obtain ⟨x, hx⟩ : ∃ x, x = keyI a.mode a.name := ⟨_, rfl⟩
  obtain ⟨y, hy⟩ : ∃ y, y = keyI b.mode b.name := ⟨_, rfl⟩
  have HO : Hid (oI a b = ordI x y) := Lib.hid (by unfold oI; rw [hx, hy])
  rw [← hx] at c1
  rw [← hy] at c2
  have C1 := Lib.hid c1; have C2 := Lib.hid c2
  clear hW0 bw b1 b2 s1 s2 l1 l2 hva hvb hx hy ha hb hs ht c1 c2
  by_cases h1 : x < y
  · have r1 : Op.bytesLess x y = true := by rw [sbless]; exact decide_eq_true h1
    have K : Hid (ordI x y = -1) := Lib.hid (by unfold ordI; rw [if_pos h1])
    clear h1
    go_enter Tryz.func48, Tryz.ntmps48
    go_upto_region 1 with fail
    rw [← HW0.out]
    refine wp_region_plan [(0, false), (2, false), (1, true), (3, true), (4, false), (5, false)] (fun u v => Below u.heap.size u v) bel_refl bel_trans (by kernel_rfl) (by kernel_rfl) ?_
    (refine wpG_still _ rfl rfl ?_; refine wpQuiet_load 80 (.tmp 2) rfl ⟨w.heap.size, 0, none⟩ rfl (ev a) (fun w' h => L1.out w' ((fun w' (h : Below W0.heap.size W0 w') => h) w' (bel_undrew h))) _ rfl rfl ?_; simp only [List.set_cons_succ, List.set_cons_zero]; refine wpQuiet_nil ?_)
    (refine wpG_still _ rfl rfl ?_; refine wpQuiet_load 80 (.tmp 3) rfl ⟨w.heap.size + 1, 0, none⟩ rfl (ev b) (fun w' h => L2.out w' ((fun w' (h : Below W0.heap.size W0 w') => h) w' (bel_undrew h))) _ rfl rfl ?_; simp only [List.set_cons_succ, List.set_cons_zero]; refine wpQuiet_nil ?_)
    refine wpG_call _ rfl rfl 95 _ (fun w => rfl) ?_
    refine calls_as (args' := #[ev a]) (by simp [Act.eval]) ?_
    refine (C1.out _).mono ?_
    rintro z wa1 ⟨rfl, hba⟩
    refine ⟨_, rfl, hba, ?_⟩
    simp only [Act.put, List.setIfInBounds_toArray, List.set_cons_succ, List.set_cons_zero]
    refine wpG_call _ rfl rfl 95 _ (fun w => rfl) ?_
    refine calls_as (args' := #[ev b]) (by simp [Act.eval]) ?_
    refine (C2.out _).mono ?_
    rintro z wb1 ⟨rfl, hbb⟩
    refine ⟨_, rfl, hbb, ?_⟩
    simp only [Act.put, List.setIfInBounds_toArray, List.set_cons_succ, List.set_cons_zero]
    iterate 2 (refine wpG_still _ rfl rfl ?_; go_big_quiet_step ((intro hb; rfl)); refine wpQuiet_nil ?_)
    refine wpG_nil ?_
    have BZ1 : Hid (Below W0.heap.size W0 wb1) := Lib.hid ((fun w' (h : Below W0.heap.size W0 w') => h) _ (bel_undrew (hba.trans (hbb.mono hba.size))))
    clear hba hbb
    go_wp2
    go_ret
    exact ⟨by rw [HO.out, K.out]; rfl, BW.out.trans (BZ1.out.mono BW.out.size)⟩
  · have r1 : Op.bytesLess x y = false := by rw [sbless]; exact decide_eq_false h1
    by_cases h2 : y < x
    · have r2 : (x == y) = false := by
        simp only [beq_eq_false_iff_ne, ne_eq]
        intro e
        subst e
        exact List.lt_irrefl _ h2
      have K : Hid (ordI x y = 1) := Lib.hid (by unfold ordI; rw [if_neg h1, if_pos h2])
      clear h1 h2
      go_enter Tryz.func48, Tryz.ntmps48
      go_upto_region 1 with fail
      rw [← HW0.out]
      refine wp_region_plan [(0, false), (2, false), (1, true), (3, true), (4, false), (5, false)] (fun u v => Below u.heap.size u v) bel_refl bel_trans (by kernel_rfl) (by kernel_rfl) ?_
      (refine wpG_still _ rfl rfl ?_; refine wpQuiet_load 80 (.tmp 2) rfl ⟨w.heap.size, 0, none⟩ rfl (ev a) (fun w' h => L1.out w' ((fun w' (h : Below W0.heap.size W0 w') => h) w' (bel_undrew h))) _ rfl rfl ?_; simp only [List.set_cons_succ, List.set_cons_zero]; refine wpQuiet_nil ?_)
      (refine wpG_still _ rfl rfl ?_; refine wpQuiet_load 80 (.tmp 3) rfl ⟨w.heap.size + 1, 0, none⟩ rfl (ev b) (fun w' h => L2.out w' ((fun w' (h : Below W0.heap.size W0 w') => h) w' (bel_undrew h))) _ rfl rfl ?_; simp only [List.set_cons_succ, List.set_cons_zero]; refine wpQuiet_nil ?_)
      refine wpG_call _ rfl rfl 95 _ (fun w => rfl) ?_
      refine calls_as (args' := #[ev a]) (by simp [Act.eval]) ?_
      refine (C1.out _).mono ?_
      rintro z wa1 ⟨rfl, hba⟩
      refine ⟨_, rfl, hba, ?_⟩
      simp only [Act.put, List.setIfInBounds_toArray, List.set_cons_succ, List.set_cons_zero]
      refine wpG_call _ rfl rfl 95 _ (fun w => rfl) ?_
      refine calls_as (args' := #[ev b]) (by simp [Act.eval]) ?_
      refine (C2.out _).mono ?_
      rintro z wb1 ⟨rfl, hbb⟩
      refine ⟨_, rfl, hbb, ?_⟩
      simp only [Act.put, List.setIfInBounds_toArray, List.set_cons_succ, List.set_cons_zero]
      iterate 2 (refine wpG_still _ rfl rfl ?_; go_big_quiet_step ((intro hb; rfl)); refine wpQuiet_nil ?_)
      refine wpG_nil ?_
      have BZ1 : Hid (Below W0.heap.size W0 wb1) := Lib.hid ((fun w' (h : Below W0.heap.size W0 w') => h) _ (bel_undrew (hba.trans (hbb.mono hba.size))))
      clear hba hbb
      go_upto_region 3 with fail
      refine wp_region_plan [(0, false), (2, false), (1, true), (3, true), (4, false), (5, false)] (fun u v => Below u.heap.size u v) bel_refl bel_trans (by kernel_rfl) (by kernel_rfl) ?_
      (refine wpG_still _ rfl rfl ?_; refine wpQuiet_load 80 (.tmp 2) rfl ⟨w.heap.size, 0, none⟩ rfl (ev a) (fun w' h => L1.out w' ((fun w' (h : Below wb1.heap.size wb1 w') => BZ1.out.trans (h.mono BZ1.out.size)) w' (bel_undrew h))) _ rfl rfl ?_; simp only [List.set_cons_succ, List.set_cons_zero]; refine wpQuiet_nil ?_)
      (refine wpG_still _ rfl rfl ?_; refine wpQuiet_load 80 (.tmp 3) rfl ⟨w.heap.size + 1, 0, none⟩ rfl (ev b) (fun w' h => L2.out w' ((fun w' (h : Below wb1.heap.size wb1 w') => BZ1.out.trans (h.mono BZ1.out.size)) w' (bel_undrew h))) _ rfl rfl ?_; simp only [List.set_cons_succ, List.set_cons_zero]; refine wpQuiet_nil ?_)
      refine wpG_call _ rfl rfl 95 _ (fun w => rfl) ?_
      refine calls_as (args' := #[ev a]) (by simp [Act.eval]) ?_
      refine (C1.out _).mono ?_
      rintro z wa3 ⟨rfl, hba⟩
      refine ⟨_, rfl, hba, ?_⟩
      simp only [Act.put, List.setIfInBounds_toArray, List.set_cons_succ, List.set_cons_zero]
      refine wpG_call _ rfl rfl 95 _ (fun w => rfl) ?_
      refine calls_as (args' := #[ev b]) (by simp [Act.eval]) ?_
      refine (C2.out _).mono ?_
      rintro z wb3 ⟨rfl, hbb⟩
      refine ⟨_, rfl, hbb, ?_⟩
      simp only [Act.put, List.setIfInBounds_toArray, List.set_cons_succ, List.set_cons_zero]
      iterate 2 (refine wpG_still _ rfl rfl ?_; go_big_quiet_step ((intro hb; rfl)); refine wpQuiet_nil ?_)
      refine wpG_nil ?_
      have BZ3 : Hid (Below W0.heap.size W0 wb3) := Lib.hid ((fun w' (h : Below wb1.heap.size wb1 w') => BZ1.out.trans (h.mono BZ1.out.size)) _ (bel_undrew (hba.trans (hbb.mono hba.size))))
      clear hba hbb
      go_wp2
      go_ret
      exact ⟨by rw [HO.out, K.out]; rfl, BW.out.trans (BZ3.out.mono BW.out.size)⟩
    · have r2 : (x == y) = true := by
        rw [beq_iff_eq]
        exact List.le_antisymm (List.not_lt.1 h2) (List.not_lt.1 h1)
      have K : Hid (ordI x y = 0) := Lib.hid (by unfold ordI; rw [if_neg h1, if_neg h2])
      clear h1 h2
      go_enter Tryz.func48, Tryz.ntmps48
      go_upto_region 1 with fail
      rw [← HW0.out]
      refine wp_region_plan [(0, false), (2, false), (1, true), (3, true), (4, false), (5, false)] (fun u v => Below u.heap.size u v) bel_refl bel_trans (by kernel_rfl) (by kernel_rfl) ?_
      (refine wpG_still _ rfl rfl ?_; refine wpQuiet_load 80 (.tmp 2) rfl ⟨w.heap.size, 0, none⟩ rfl (ev a) (fun w' h => L1.out w' ((fun w' (h : Below W0.heap.size W0 w') => h) w' (bel_undrew h))) _ rfl rfl ?_; simp only [List.set_cons_succ, List.set_cons_zero]; refine wpQuiet_nil ?_)
      (refine wpG_still _ rfl rfl ?_; refine wpQuiet_load 80 (.tmp 3) rfl ⟨w.heap.size + 1, 0, none⟩ rfl (ev b) (fun w' h => L2.out w' ((fun w' (h : Below W0.heap.size W0 w') => h) w' (bel_undrew h))) _ rfl rfl ?_; simp only [List.set_cons_succ, List.set_cons_zero]; refine wpQuiet_nil ?_)
      refine wpG_call _ rfl rfl 95 _ (fun w => rfl) ?_
      refine calls_as (args' := #[ev a]) (by simp [Act.eval]) ?_
      refine (C1.out _).mono ?_
      rintro z wa1 ⟨rfl, hba⟩
      refine ⟨_, rfl, hba, ?_⟩
      simp only [Act.put, List.setIfInBounds_toArray, List.set_cons_succ, List.set_cons_zero]
      refine wpG_call _ rfl rfl 95 _ (fun w => rfl) ?_
      refine calls_as (args' := #[ev b]) (by simp [Act.eval]) ?_
      refine (C2.out _).mono ?_
      rintro z wb1 ⟨rfl, hbb⟩
      refine ⟨_, rfl, hbb, ?_⟩
      simp only [Act.put, List.setIfInBounds_toArray, List.set_cons_succ, List.set_cons_zero]
      iterate 2 (refine wpG_still _ rfl rfl ?_; go_big_quiet_step ((intro hb; rfl)); refine wpQuiet_nil ?_)
      refine wpG_nil ?_
      have BZ1 : Hid (Below W0.heap.size W0 wb1) := Lib.hid ((fun w' (h : Below W0.heap.size W0 w') => h) _ (bel_undrew (hba.trans (hbb.mono hba.size))))
      clear hba hbb
      go_upto_region 3 with fail
      refine wp_region_plan [(0, false), (2, false), (1, true), (3, true), (4, false), (5, false)] (fun u v => Below u.heap.size u v) bel_refl bel_trans (by kernel_rfl) (by kernel_rfl) ?_
      (refine wpG_still _ rfl rfl ?_; refine wpQuiet_load 80 (.tmp 2) rfl ⟨w.heap.size, 0, none⟩ rfl (ev a) (fun w' h => L1.out w' ((fun w' (h : Below wb1.heap.size wb1 w') => BZ1.out.trans (h.mono BZ1.out.size)) w' (bel_undrew h))) _ rfl rfl ?_; simp only [List.set_cons_succ, List.set_cons_zero]; refine wpQuiet_nil ?_)
      (refine wpG_still _ rfl rfl ?_; refine wpQuiet_load 80 (.tmp 3) rfl ⟨w.heap.size + 1, 0, none⟩ rfl (ev b) (fun w' h => L2.out w' ((fun w' (h : Below wb1.heap.size wb1 w') => BZ1.out.trans (h.mono BZ1.out.size)) w' (bel_undrew h))) _ rfl rfl ?_; simp only [List.set_cons_succ, List.set_cons_zero]; refine wpQuiet_nil ?_)
      refine wpG_call _ rfl rfl 95 _ (fun w => rfl) ?_
      refine calls_as (args' := #[ev a]) (by simp [Act.eval]) ?_
      refine (C1.out _).mono ?_
      rintro z wa3 ⟨rfl, hba⟩
      refine ⟨_, rfl, hba, ?_⟩
      simp only [Act.put, List.setIfInBounds_toArray, List.set_cons_succ, List.set_cons_zero]
      refine wpG_call _ rfl rfl 95 _ (fun w => rfl) ?_
      refine calls_as (args' := #[ev b]) (by simp [Act.eval]) ?_
      refine (C2.out _).mono ?_
      rintro z wb3 ⟨rfl, hbb⟩
      refine ⟨_, rfl, hbb, ?_⟩
      simp only [Act.put, List.setIfInBounds_toArray, List.set_cons_succ, List.set_cons_zero]
      iterate 2 (refine wpG_still _ rfl rfl ?_; go_big_quiet_step ((intro hb; rfl)); refine wpQuiet_nil ?_)
      refine wpG_nil ?_
      have BZ3 : Hid (Below W0.heap.size W0 wb3) := Lib.hid ((fun w' (h : Below wb1.heap.size wb1 w') => BZ1.out.trans (h.mono BZ1.out.size)) _ (bel_undrew (hba.trans (hbb.mono hba.size))))
      clear hba hbb
      go_wp2
      go_ret
      exact ⟨by rw [HO.out, K.out]; rfl, BW.out.trans (BZ3.out.mono BW.out.size)⟩
theorem ordQ_eq {l : List En} {j : Nat} (hj : j < l.length) (e : En) : ordQ (l.take (j + 1)) e = (!((l.take (j + 1)).map (·.name)).contains e.name && decide (oI (gtE l j) e < 0)) := by
  unfold ordQ
  rw [take_last hj]
theorem rising_any (l : List En) (ha : EAll l) (hs : ∀ e ∈ l, e.name.length ≤ 1048576) (hn : l.length < 100000) (A : Option Addr) (cap : Nat) (w : World) (hA : Sl w A (ecs l)) :
    Calls Tryz.prog 82 #[.slice A l.length cap] w fun z w' => z = .returned (.bool (ordE [] l)) ∧ Below w.heap.size w w' := by
  obtain ⟨n, hnn⟩ : ∃ n, n = l.length := ⟨_, rfl⟩
  rw [← hnn] at hn ⊢
  obtain ⟨r, hr⟩ : ∃ r, r = ordE [] l := ⟨_, rfl⟩
  rw [← hr]
  have HA := Lib.hid hA; have HR := Lib.hid hr; have HNN := Lib.hid hnn; have HAL := Lib.hid ha; have HS := Lib.hid hs
  clear hA hr hnn ha hs
  go_enter Tryz.func82, Tryz.ntmps82
  go_upto_block 0 with fail
  go_step
  go_loopw [3] (fun t3 wr => ∃ i : Nat, t3 = .int .i64 (i : Int) ∧ i ≤ n ∧ Hid (ordE (l.take i) (l.drop i) = r) ∧ Hid (Below w.heap.size w wr)) (fun t3 _ => (n - intOf t3).toNat)
  case atStart => exact ⟨0, rfl, by omega, Lib.hid (by rw [HR.out]; rfl), Lib.hid (Below.refl _ _)⟩
  case round =>
    obtain ⟨i, rfl, hi, HT, HBW⟩ := hrel
    by_cases hin : i < n
    · have hil : i < l.length := by rw [← HNN.out]; exact hin
      obtain ⟨ad, hA1, hse⟩ := Sl.ent HA.out HAL.out hil
      subst hA1
      obtain ⟨e, hee⟩ : ∃ e, e = gtE l i := ⟨_, rfl⟩
      have e20 : e.id.length = 20 := by rw [hee]; exact HAL.out _ (gtE_mem hil)
      have esz : e.name.length ≤ 1048576 := by rw [hee]; exact HS.out _ (gtE_mem hil)
      have hst := ordE_step hil
      rw [HT.out, ← hee] at hst
      rw [← hee] at hse
      obtain ⟨nm, hnm⟩ : ∃ nm, nm = e.name := ⟨_, rfl⟩
      have LE := Lib.hid (fun w' (h : Below w.heap.size w w') => load_entR e20 (hse.below h))
      have LN := Lib.hid (fun w' (h : Below w.heap.size w w') => load_oneC (T := 9) (fun w => by kernel_rfl) (show w'.cell? ((ad.add (i * 22)).add 1) = some (.string (bstr nm)) by rw [hnm]; exact en_name (hse.below h)))
      have ST := Lib.hid hst; have E20 := Lib.hid e20; have ESZ := Lib.hid esz; have HEE := Lib.hid hee; have HNM := Lib.hid hnm; have HIL := Lib.hid hil
      have TK : Hid (l.take (i + 1) = l.take i ++ [e]) := Lib.hid (by
        rw [HEE.out]
        unfold gtE
        rw [List.getD_eq_getElem?_getD, List.getElem?_eq_getElem HIL.out]
        exact List.take_succ_eq_append_getElem HIL.out)
      clear hst e20 esz hse hee hnm HT hil
      go_upto_region 4 with fail
      obtain ⟨q, hq⟩ : ∃ q, q = (decide (0 < i) && decide (0 ≤ oI (gtE l (i - 1)) e)) := ⟨_, rfl⟩
      go_cut [25] (fun t25 wx => t25 = .bool q ∧ Hid (Below w.heap.size w wx))
      case first =>
        by_cases h0 : i = 0
        · have HQ : Hid (q = false) := Lib.hid (by rw [hq, h0]; rfl)
          have z0 : decide ((0 : Int) < (i : Int)) = false := decide_eq_false (by omega)
          have z1 : decide (0 < i) = false := decide_eq_false (by omega)
          clear h0 hq
          refine wp_region_plan [(0, false), (1, false), (2, false), (3, false), (4, false), (5, false), (6, false), (7, false), (8, false), (9, false), (10, false), (11, false), (12, true), (13, false), (14, false)] (fun u v => Below u.heap.size u v) bel_refl bel_trans (by kernel_rfl) (by kernel_rfl) ?_
          iterate 12 (refine wpG_still _ rfl rfl ?_; go_big_quiet_step ((intro hb; rfl)); refine wpQuiet_nil ?_)
          refine wpG_no _ rfl rfl ?_
          simp only [Act.put, List.setIfInBounds_toArray, List.set_cons_succ, List.set_cons_zero]
          iterate 2 (refine wpG_still _ rfl rfl ?_; go_big_quiet_step ((intro hb; rfl)); refine wpQuiet_nil ?_)
          refine wpG_nil ?_
          go_wp2
          go_meet
          case rel => exact ⟨by rw [HQ.out], Lib.hid HBW.out.drew⟩
        · obtain ⟨j, hj⟩ : ∃ j, i = j + 1 := ⟨i - 1, by omega⟩
          have hjl : j < l.length := by have := HIL.out; omega
          obtain ⟨p, hp⟩ : ∃ p, p = gtE l j := ⟨_, rfl⟩
          have p20 : p.id.length = 20 := by rw [hp]; exact HAL.out _ (gtE_mem hjl)
          have psz : p.name.length ≤ 1048576 := by rw [hp]; exact HS.out _ (gtE_mem hjl)
          obtain ⟨ad', e1, hsp⟩ := Sl.ent HA.out HAL.out hjl
          injection e1 with e1
          subst e1
          rw [← hp] at hsp
          have LP := Lib.hid (fun w' (h : Below w.heap.size w w') => load_entR p20 (hsp.below h))
          have KO0 := fun w' => orderR_any p e p20 E20.out psz ESZ.out w'
          obtain ⟨o, ho⟩ : ∃ o, o = oI p e := ⟨_, rfl⟩
          rw [← ho] at KO0
          have KO := Lib.hid KO0
          have HQ : Hid (q = decide (0 ≤ o)) := Lib.hid (by
            rw [hq, ho, hp, hj, decide_eq_true (by omega)]
            simp)
          have z0 : decide ((0 : Int) < (i : Int)) = true := decide_eq_true (by omega)
          have z1 : decide (0 < i) = true := decide_eq_true (by omega)
          have zw : IntKind.i64.wrap ((i : Int) - 1) = (j : Int) := by
            have := HIL.out
            rw [IntKind.wrap_i64]
            omega
          have zj : j < n := by omega
          have BW := Lib.hid (fun w' (h : Below wr.heap.size wr.drew w') => HBW.out.trans ((bel_undrew h).mono HBW.out.size))
          clear hsp hp p20 psz hq ho h0 hjl hj KO0
          refine wp_region_plan [(0, false), (1, false), (2, false), (3, false), (4, false), (5, false), (6, false), (7, false), (8, false), (9, false), (10, false), (11, false), (12, true), (13, false), (14, false)] (fun u v => Below u.heap.size u v) bel_refl bel_trans (by kernel_rfl) (by kernel_rfl) ?_
          iterate 12 (refine wpG_still _ rfl rfl ?_; first | (refine wpQuiet_load 80 (.tmp 17) rfl (ad.add (j * 22)) rfl (ev p) (fun w' h => LP.out w' (BW.out w' h)) _ rfl rfl ?_; simp only [List.set_cons_succ, List.set_cons_zero]) | (refine wpQuiet_load 80 (.tmp 21) rfl (ad.add (i * 22)) rfl (ev e) (fun w' h => LE.out w' (BW.out w' h)) _ rfl rfl ?_; simp only [List.set_cons_succ, List.set_cons_zero]) | (go_big_quiet_step ((intro hb; rfl))); refine wpQuiet_nil ?_)
          refine wpG_call _ rfl rfl 48 _ (fun w => rfl) ?_
          refine calls_as (args' := #[ev p, ev e]) (by simp [Act.eval]) ?_
          refine (KO.out _).mono ?_
          rintro z w6 ⟨rfl, hb6⟩
          refine ⟨_, rfl, hb6, ?_⟩
          simp only [Act.put, List.setIfInBounds_toArray, List.set_cons_succ, List.set_cons_zero]
          have b6 := Lib.hid (BW.out _ hb6)
          clear hb6
          iterate 2 (refine wpG_still _ rfl rfl ?_; go_big_quiet_step ((intro hb; rfl)); refine wpQuiet_nil ?_)
          refine wpG_nil ?_
          go_wp2
          go_meet
          case rel => exact ⟨by rw [HQ.out], b6⟩
      case rest =>
      obtain ⟨rfl, HBC⟩ := hcut
      cases q with
      | true =>
        have HF : Hid (r = false) := Lib.hid (by
          simp only [Eq.comm (a := true), Bool.and_eq_true, decide_eq_true_eq] at hq
          obtain ⟨j, hj⟩ : ∃ j, i = j + 1 := ⟨i - 1, by omega⟩
          have hjl : j < l.length := by have := HIL.out; omega
          rw [ST.out, hj, ordQ_eq hjl, decide_eq_false (by rw [hj] at hq; simp only [Nat.add_sub_cancel] at hq; omega)]
          simp)
        clear hq
        go_wp2
        go_ret
        exact ⟨by rw [HF.out]; rfl, HBC.out⟩
      | false =>
        have HQ2 : Hid (ordQ (l.take i) e = !((l.take i).map (·.name)).contains e.name) := Lib.hid (by
          by_cases h0 : i = 0
          · subst h0; rfl
          · obtain ⟨j, hj⟩ : ∃ j, i = j + 1 := ⟨i - 1, by omega⟩
            have hjl : j < l.length := by have := HIL.out; omega
            rw [hj, ordQ_eq hjl]
            rw [hj, decide_eq_true (by omega : 0 < j + 1), Bool.true_and, Nat.add_sub_cancel] at hq
            rw [decide_eq_true (by have := of_decide_eq_false hq.symm; omega), Bool.and_true])
        clear hq
        go_upto_block 2 with fail
        go_step
        go_loopw [4] (fun t4 wi => ∃ k : Nat, t4 = .int .i64 (k : Int) ∧ k ≤ i ∧ Hid (∀ j, j < k → (gtE l j).name ≠ nm) ∧ Hid (Below w.heap.size w wi)) (fun t4 _ => (i - intOf t4).toNat)
        case atStart => exact ⟨0, rfl, by omega, Lib.hid (fun j h => by omega), HBC⟩
        case round =>
          obtain ⟨k, rfl, hk, HN, HBI⟩ := hrel
          by_cases hki : k < i
          · have hkl : k < l.length := by have := HIL.out; omega
            have hkn : k < n := by omega
            obtain ⟨ad', e1, hsk⟩ := Sl.ent HA.out HAL.out hkl
            injection e1 with e1
            subst e1
            obtain ⟨nk, hnk⟩ : ∃ nk, nk = (gtE l k).name := ⟨_, rfl⟩
            have LK := Lib.hid (fun w' (h : Below w.heap.size w w') => load_oneC (T := 9) (fun w => by kernel_rfl) (show w'.cell? ((ad.add (k * 22)).add 1) = some (.string (bstr nk)) by rw [hnk]; exact en_name (hsk.below h)))
            have BW := Lib.hid (fun w' (h : Below wr.heap.size wr.drew w') => HBI.out.trans ((bel_undrew h).mono HBI.out.size))
            clear hsk
            by_cases he : nk = nm
            · have q1 : (nk == nm) = true := by simpa using he
              have HF : Hid (r = false) := Lib.hid (by
                rw [ST.out, HQ2.out]
                have hm : nm ∈ (l.take i).map (·.name) := by
                  rw [← he, hnk]
                  refine List.mem_map.2 ⟨gtE l k, ?_, rfl⟩
                  unfold gtE
                  rw [List.getD_eq_getElem?_getD, List.getElem?_eq_getElem hkl]
                  exact List.mem_take_iff_getElem.2 ⟨k, by omega, rfl⟩
                rw [HNM.out] at hm
                have : ((l.take i).map (·.name)).contains e.name = true := by simpa using hm
                rw [this]; rfl)
              clear he hnk
              go_upto_region 9 with fail
              refine wp_region_plan [(0, false), (1, false), (2, false), (3, false), (4, false), (5, false), (6, false), (7, false), (8, false), (9, false), (10, false)] (fun u v => Below u.heap.size u v) bel_refl bel_trans (by kernel_rfl) (by kernel_rfl) ?_
              iterate 11 (refine wpG_still _ rfl rfl ?_; first | (refine wpQuiet_load 9 (.tmp 34) rfl ((ad.add (k * 22)).add 1) rfl (.string (bstr nk)) (fun w' h => LK.out w' (BW.out w' h)) _ rfl rfl ?_; simp only [List.set_cons_succ, List.set_cons_zero]) | (refine wpQuiet_load 9 (.tmp 39) rfl ((ad.add (i * 22)).add 1) rfl (.string (bstr nm)) (fun w' h => LN.out w' (BW.out w' h)) _ rfl rfl ?_; simp only [List.set_cons_succ, List.set_cons_zero]) | (go_big_quiet_step ((intro hb; rfl))); refine wpQuiet_nil ?_)
              refine wpG_nil ?_
              go_wp2
              go_ret
              exact ⟨by rw [HF.out]; rfl, HBI.out.drew⟩
            · have q1 : (nk == nm) = false := by simpa using he
              have HN2 : Hid (∀ j, j < k + 1 → (gtE l j).name ≠ nm) := Lib.hid (fun j h => by
                by_cases ej : j = k
                · subst ej; rw [← hnk]; exact he
                · exact HN.out j (by omega))
              clear he hnk HN
              go_upto_region 9 with fail
              refine wp_region_plan [(0, false), (1, false), (2, false), (3, false), (4, false), (5, false), (6, false), (7, false), (8, false), (9, false), (10, false)] (fun u v => Below u.heap.size u v) bel_refl bel_trans (by kernel_rfl) (by kernel_rfl) ?_
              iterate 11 (refine wpG_still _ rfl rfl ?_; first | (refine wpQuiet_load 9 (.tmp 34) rfl ((ad.add (k * 22)).add 1) rfl (.string (bstr nk)) (fun w' h => LK.out w' (BW.out w' h)) _ rfl rfl ?_; simp only [List.set_cons_succ, List.set_cons_zero]) | (refine wpQuiet_load 9 (.tmp 39) rfl ((ad.add (i * 22)).add 1) rfl (.string (bstr nm)) (fun w' h => LN.out w' (BW.out w' h)) _ rfl rfl ?_; simp only [List.set_cons_succ, List.set_cons_zero]) | (go_big_quiet_step ((intro hb; rfl))); refine wpQuiet_nil ?_)
              refine wpG_nil ?_
              go_wp2
              go_roundw
              case rel => exact ⟨k + 1, by simp, by omega, HN2, Lib.hid HBI.out.drew⟩
              case measure => simp only [intOf]; omega
          · have hke : k = i := by omega
            have HT2 : Hid (ordE (l.take (i + 1)) (l.drop (i + 1)) = r) := Lib.hid (by
              rw [ST.out, HQ2.out]
              have hm : ((l.take i).map (·.name)).contains e.name = false := by
                have : e.name ∉ (l.take i).map (·.name) := fun hm => by
                  obtain ⟨x, hx, hxe⟩ := List.mem_map.1 hm
                  obtain ⟨j, hj, hjx⟩ := List.mem_take_iff_getElem.1 hx
                  refine HN.out j (by omega) ?_
                  unfold gtE
                  rw [List.getD_eq_getElem?_getD, List.getElem?_eq_getElem (by omega)]
                  show l[j].name = nm
                  rw [hjx, hxe, HNM.out]
                simpa using this
              rw [hm]; rfl)
            clear hke HN
            go_wp2
            go_roundw
            case rel => exact ⟨i + 1, by simp, by omega, HT2, HBI⟩
            case measure => simp only [intOf]; omega
    · have hle : i = n := by omega
      have HF : Hid (r = true) := Lib.hid (by
        have := HT.out
        rw [hle, HNN.out, List.drop_length] at this
        rw [← this]; rfl)
      clear hle HT
      go_wp2
      go_ret
      exact ⟨by rw [HF.out]; rfl, HBW.out⟩
end
section
open Go.RowKit
set_option maxRecDepth 100000
set_option maxHeartbeats 4000000
set_option linter.unusedVariables false
theorem en_id {w : World} {ad : Addr} {e : En} (h20 : e.id.length = 20) (h : Sl w (some ad) (ecell e)) : Bs w (some (ad.add 2)) e.id := by
  obtain ⟨ad', e1, h2⟩ := h.part 2 (bvs e.id) (fun j v hj => by
    show (Value.int .i64 e.mode :: Value.string (bstr e.name) :: bvs e.id)[2 + j]? = some v
    rw [show 2 + j = j + 1 + 1 by omega, List.getElem?_cons_succ, List.getElem?_cons_succ]
    exact hj) (by intro h; have := congrArg List.length h; rw [bvs_length, h20] at this; cases this)
  injection e1 with e1
  subst e1
  exact h2
theorem en_blk {w : World} {ad : Addr} {e : En} (h : Sl w (some ad) (ecell e)) : ad.block < w.heap.size := World.block_lt_of_cell? w _ (en_mode h)
theorem add_block (ad : Addr) (k : Nat) : (ad.add k).block = ad.block := by unfold Addr.add; split <;> rfl
theorem head_st0 (d nm : List UInt8) : (bstr d ++ ⟨#[32]⟩ ++ bstr nm : ByteArray) = bstr (d ++ 32 :: nm) := by
  apply ByteArray.ext
  simp
theorem wpList_zero {ops : Array Oper} {rest : List Oper} {o : Oper} {a : Act} {w : World} {Q : Exit → Act → World → Prop} (hg : o.guard = none) (x : Operand) (ho : o.op = .buildSlice 22 1 #[(0, x)])
    (hx : a.eval x = .int .u8 0) (h : wpList Tryz.prog ops Q rest (a.put o.dst (.slice (some ⟨w.heap.size, 0, none⟩) 1 1)) (w.alloc (.cells (bvs [0]).toArray 5))) : wpList Tryz.prog ops Q (o :: rest) a w := by
  obtain ⟨i, hi, hz, hsize, hby⟩ := info_parts Tryz.info5
  refine wpList_buildSlice hg 22 5 1 _ ho _ i _ Tryz.underlying22 hi hz (by rw [hsize]; decide) (by rw [hsize]; decide) ?_ h
  rw [hsize]
  simp only [hx, List.map_toArray, List.map_cons, List.map_nil]
  kernel_rfl
theorem tree_take3 {l : List En} {i : Nat} {e : En} (h : l[i]? = some e) : treeB (l.take (i + 1)) = treeB (l.take i) ++ (modeD e.mode ++ 32 :: e.name) ++ [0] ++ e.id := by
  rw [List.take_add_one, h]
  simp [treeB, enB]
theorem saidR_any (l : List En) (hall : ∀ e ∈ l, okE e = true ∧ e.id.length = 20) (hn : l.length ≤ 512) (A : Option Addr) (cap : Nat) (w : World) (hA : Sl w A (ecs l)) :
    Calls Tryz.prog 94 #[.slice A l.length cap] w fun z w' => (∃ At ct, z = .returned (.slice At (treeB l).length ct) ∧ (treeB l).length ≤ ct ∧ Bs w' At (treeB l)) ∧ Below w.heap.size w w' := by
  have ha : EAll l := fun e he => (hall e he).2
  have tbd : ∀ i, (treeB (l.take i)).length ≤ 65536 := fun i => by
    have := tree_le (l.take i) (fun e he => hall e (List.mem_of_mem_take he))
    rw [List.length_take] at this
    omega
  obtain ⟨n, hnn⟩ : ∃ n, n = l.length := ⟨_, rfl⟩
  rw [← hnn] at hn ⊢
  have HA := Lib.hid hA; have HNN := Lib.hid hnn; have HAL := Lib.hid ha; have HALL := Lib.hid hall; have TBD := Lib.hid tbd
  clear hA hnn ha hall tbd
  go_enter Tryz.func94, Tryz.ntmps94
  go_upto_block 0 with fail
  go_step
  go_loopw [3, 4] (fun t3 t4 wr => ∃ i : Nat, t4 = .int .i64 (i : Int) ∧ i ≤ n ∧ Hid (WinB wr w.heap.size 5 t3 (treeB (l.take i))) ∧ Hid (Below w.heap.size w wr)) (fun _ t4 _ => (n - intOf t4).toNat)
  case atStart => exact ⟨0, rfl, by omega, Lib.hid (Win.nil _ _ _ _), Lib.hid (Below.refl _ _)⟩
  case round =>
    obtain ⟨i, rfl, hi, HW, HBW⟩ := hrel
    by_cases hin : i < n
    · have hil : i < l.length := by rw [← HNN.out]; exact hin
      obtain ⟨ad, hA1, hse⟩ := Sl.ent HA.out HAL.out hil
      subst hA1
      obtain ⟨e, hee⟩ : ∃ e, e = gtE l i := ⟨_, rfl⟩
      have hem : e ∈ l := by rw [hee]; exact gtE_mem hil
      have ge : l[i]? = some e := by
        rw [hee]
        unfold gtE
        rw [List.getD_eq_getElem?_getD, List.getElem?_eq_getElem hil]; rfl
      obtain ⟨eok, e20⟩ := HALL.out e hem
      have esz := (named_no (okE_iff.1 eok).2).2
      rw [← hee] at hse
      have TT := Lib.hid (tree_take3 ge)
      have E20 := Lib.hid e20
      have hblk := en_blk hse
      obtain ⟨ae, hae⟩ : ∃ ae, ae = ad.add (i * 22) := ⟨_, rfl⟩
      have HAE := Lib.hid hae
      rw [← hae] at hse hblk
      have hno : ¬ u3.ownBlock = some ae.block := fun h => by have := (HW.out.block _ h).1; omega
      obtain ⟨m, hm⟩ : ∃ m, m = e.mode := ⟨_, rfl⟩
      obtain ⟨nm, hnm⟩ : ∃ nm, nm = e.name := ⟨_, rfl⟩
      obtain ⟨d, hd⟩ : ∃ d, d = modeD m := ⟨_, rfl⟩
      have hd6 : d.length ≤ 6 := by rw [hd]; exact mode_len m
      have cm := en_mode (hse.below HBW.out)
      have cn := en_name (hse.below HBW.out)
      rw [← hm] at cm
      rw [← hnm] at cn esz
      rw [← hm, ← hnm, ← hd] at TT
      have LM := Lib.hid (fun w' (h : Kp (fun k => u3.ownBlock = some k) wr w') => load_oneC (T := 3) (fun w => by kernel_rfl) (h.cell cm hno))
      have LN := Lib.hid (fun w' (h : Kp (fun k => u3.ownBlock = some k) wr w') => load_oneC (T := 9) (fun w => by kernel_rfl) (h.cell cn (by rw [add_block]; exact hno)))
      have KM : Hid (∀ w', Calls Tryz.prog 92 #[.int .i64 m] w' fun z w'' => z = .returned (.string (bstr d)) ∧ w' = w'') := Lib.hid (fun w' => by rw [hd]; exact modeR_any m w')
      have SI := Lib.hid (fun w' (h : Below w.heap.size w w') => en_id e20 (hse.below h))
      have tb1 := TBD.out i
      have HO := HW.out
      rw [hae] at LM LN SI
      clear hee hem ge eok hil e20 hblk hm hnm hd hno cm cn hse hae HAE
      go_upto_region 5 with fail
      refine wp_region_plan [(0, false), (1, false), (2, false), (3, false), (4, false), (5, false), (8, false), (9, false), (10, false), (11, false), (12, false), (6, true), (7, false), (13, false), (14, true), (15, false)] (fun u v => Kp (fun k => u3.ownBlock = some k) u v) (fun w => Kp.refl _ _) (fun _ _ _ h k => h.trans k) (by kernel_rfl) (by kernel_rfl) ?_
      iterate 11 (refine wpG_still _ rfl rfl ?_; first | (refine wpQuiet_load 3 (.tmp 15) rfl (ad.add (i * 22)) rfl (.int .i64 m) (fun w' h => LM.out w' (kp_ofDrew h)) _ rfl rfl ?_; simp only [List.set_cons_succ, List.set_cons_zero]) | (refine wpQuiet_load 9 (.tmp 22) rfl ((ad.add (i * 22)).add 1) rfl (.string (bstr nm)) (fun w' h => LN.out w' (kp_ofDrew h)) _ rfl rfl ?_; simp only [List.set_cons_succ, List.set_cons_zero]) | (go_big_quiet_step ((intro hb; rfl))); refine wpQuiet_nil ?_)
      refine wpG_call _ rfl rfl 92 _ (fun w => rfl) ?_
      refine calls_as (args' := #[.int .i64 m]) (by simp [Act.eval]) ?_
      refine (KM.out _).mono ?_
      rintro z w6 ⟨rfl, rfl⟩
      refine ⟨_, rfl, Kp.refl _ _, ?_⟩
      simp only [Act.put, List.setIfInBounds_toArray, List.set_cons_succ, List.set_cons_zero]
      iterate 2 (refine wpG_still _ rfl rfl ?_; go_big_quiet_step ((intro hb; first | rfl | (rw [if_neg (by simp; omega)]; exact ⟨rfl, rfl⟩))); refine wpQuiet_nil ?_)
      have hl9 : (treeB (l.take i)).length + (d ++ 32 :: nm).length ≤ 140737488355328 := by
        rw [List.length_append, List.length_cons]; omega
      have bdr : Below w.heap.size w wr.drew := HBW.out.drew
      obtain ⟨v7, w7, hrun, hw7, hk7, ho7⟩ := run_appS (d ++ 32 :: nm) (HO.below (Below.refl wr.heap.size wr).drew) hl9 bdr.size 22
      refine wpG_value _ rfl rfl v7 (run_appOp (.tmp 11) (.tmp 24) 22 9 rfl u3 _ _ rfl (congrArg Value.string (head_st0 d nm)) hrun) hk7 ?_
      simp only [Act.put, List.setIfInBounds_toArray, List.set_cons_succ, List.set_cons_zero]
      iterate 1 (refine wpG_still _ rfl rfl ?_; go_big_quiet_step ((intro hb; rfl)); refine wpQuiet_nil ?_)
      refine wpG_nil ?_
      have HW7 := Lib.hid hw7
      have BW7 := Lib.hid (bdr.trans (hk7.toBelow bdr.size (fun k hk h => by have := (HW.out.block _ h).1; omega)))
      have hl10 : (treeB (l.take i) ++ (d ++ 32 :: nm)).length ≤ 70000 := by
        simp only [List.length_append, List.length_cons]; omega
      have HL10 := Lib.hid hl10
      have HW0 := Lib.hid BW7.out.size
      clear hrun hw7 hk7 ho7 hl9 hl10 bdr HO
      have hs1 : Bs (w7.alloc (.cells (bvs [0]).toArray 5)) (some ⟨w7.heap.size, 0, none⟩) [0] := Sl.of_block (heap_alloc_new _ _) (fun j v hj => by simpa using hj)
      have hsrc1 := Lib.hid (srcOf (P := Tryz.prog) (size := 1) (m := 1) (c := 1) Tryz.underlying22 (by decide) (by rw [bvs_length]; rfl) hs1 (bvs_one _))
      have b71 : Below w7.heap.size w7 (w7.alloc (.cells (bvs [0]).toArray 5)) := (Below.refl _ _).alloc (Nat.le_refl _) _
      have HW71 := Lib.hid (HW7.out.below b71)
      have HW01 : Hid (w.heap.size ≤ (w7.alloc (.cells (bvs [0]).toArray 5)).heap.size) := Lib.hid (by have := HW0.out; have := b71.size; omega)
      have BW71 := Lib.hid (BW7.out.trans (b71.mono HW0.out))
      clear hs1 b71
      go_upto_region 7 with (first
        | (refine wpList_zero rfl _ rfl rfl ?_)
        | (refine wpList_appW rfl (.tmp 26) (.tmp 27) 22 22 rfl w.heap.size 5 (.int .u8 0) 1 1 Tryz.underlying22 Tryz.info5 rfl (by decide) v7 _ _ rfl HW71.out (.slice (some ⟨w7.heap.size, 0, none⟩) 1 1) 1 (bvs [0]) rfl hsrc1.out (by have := HL10.out; omega) (by have := HL10.out; unfold maxLen; omega) HW01.out ?_
           intro v8 w8 hw8 hk8 ho8))
      have HW8 : Hid (WinB w8 w.heap.size 5 v8 (treeB (l.take i) ++ (d ++ 32 :: nm) ++ [0])) := Lib.hid (by
        have h : Win w8 w.heap.size 5 1 v8 ((treeB (l.take i) ++ (d ++ 32 :: nm)).length + 1) (bvs (treeB (l.take i) ++ (d ++ 32 :: nm)) ++ bvs [0]) := hw8
        show Win w8 w.heap.size 5 1 v8 (treeB (l.take i) ++ (d ++ 32 :: nm) ++ [0]).length (bvs (treeB (l.take i) ++ (d ++ 32 :: nm) ++ [0]))
        rw [List.length_append (bs := [0]), bvs_append _ [0]]
        exact h)
      have BW8 := Lib.hid (BW71.out.trans (hk8.toBelow HW01.out (fun k hk h => by have := (HW71.out.block _ h).1; omega)))
      have hsrc2 := Lib.hid (srcOf (P := Tryz.prog) (size := 1) (m := 20) (c := 20) Tryz.underlying22 (by decide) (by rw [bvs_length, E20.out]) (SI.out w8 BW8.out) (bvs_one _))
      have HL8 : Hid ((treeB (l.take i) ++ (d ++ 32 :: nm) ++ [0]).length ≤ 70001) := Lib.hid (by have := HL10.out; rw [List.length_append (bs := [0])]; simp only [List.length_singleton]; omega)
      have HW80 := Lib.hid BW8.out.size
      clear hw8 hk8 ho8
      go_wp2_with (refine wpList_appW rfl (.tmp 29) (.tmp 34) 22 22 rfl w.heap.size 5 (.int .u8 0) 1 1 Tryz.underlying22 Tryz.info5 rfl (by decide) v8 _ _ rfl HW8.out (.slice (some ((ad.add (i * 22)).add 2)) 20 20) 20 (bvs e.id) rfl hsrc2.out (by have := HL8.out; omega) (by have := HL8.out; unfold maxLen; omega) HW80.out ?_
                   intro v9 w9 hw9 hk9 ho9)
      have HW9 : Hid (WinB w9 w.heap.size 5 v9 (treeB (l.take (i + 1)))) := Lib.hid (by
        rw [TT.out]
        have h : Win w9 w.heap.size 5 1 v9 ((treeB (l.take i) ++ (d ++ 32 :: nm) ++ [0]).length + 20) (bvs (treeB (l.take i) ++ (d ++ 32 :: nm) ++ [0]) ++ bvs e.id) := hw9
        have hlen : ((treeB (l.take i) ++ (d ++ 32 :: nm) ++ [0]) ++ e.id).length = (treeB (l.take i) ++ (d ++ 32 :: nm) ++ [0]).length + 20 := by rw [List.length_append (bs := e.id), E20.out]
        show Win w9 w.heap.size 5 1 v9 ((treeB (l.take i) ++ (d ++ 32 :: nm) ++ [0]) ++ e.id).length (bvs ((treeB (l.take i) ++ (d ++ 32 :: nm) ++ [0]) ++ e.id))
        rw [hlen, bvs_append _ e.id]
        exact h)
      have BW9 := Lib.hid (BW8.out.trans (hk9.toBelow HW80.out (fun k hk h => by have := (HW8.out.block _ h).1; omega)))
      clear hw9 hk9 ho9
      go_roundw
      case rel => exact ⟨i + 1, by simp, by omega, HW9, BW9⟩
      case measure => simp only [intOf]; omega
    · have hle : i = n := by omega
      have HWF : Hid (WinB wr w.heap.size 5 u3 (treeB l)) := Lib.hid (by
        have := HW.out
        rwa [hle, HNN.out, List.take_length] at this)
      clear hle HW
      go_wp2
      go_ret
      obtain ⟨At, ct, rfl, hct, hmt, hst⟩ := HWF.out.reads
      exact ⟨⟨At, ct, rfl, hct, hst⟩, HBW.out⟩
theorem encTrR_any (l : List En) (ha : EAll l) (hs : ∀ e ∈ l, e.name.length ≤ 1048576) (hn : l.length < 100000) (A : Option Addr) (cap : Nat) (w : World) (hA : Sl w A (ecs l)) :
    Calls Tryz.prog 47 #[.slice A l.length cap] w (OutB (encTr l).1 (encTr l).2 w) := by
  have ko := fun w' (h : Below w.heap.size w w') => rising_any l ha hs hn A cap w' (hA.below h)
  have kd := fun (hq : l.all okE = true) (h1 : l.length ≤ 512) w' (h : Below w.heap.size w w') => saidR_any l (fun e he => ⟨List.all_eq_true.1 hq e he, ha e he⟩) h1 A cap w' (hA.below h)
  have htl := fun (hq : l.all okE = true) => tree_le l (fun e he => ⟨List.all_eq_true.1 hq e he, ha e he⟩)
  obtain ⟨n, hnn⟩ : ∃ n, n = l.length := ⟨_, rfl⟩
  by_cases h1 : 512 < l.length
  · have HE : Hid (encTr l = ([], 1)) := Lib.hid (if_pos (.inl h1))
    rw [← hnn] at hn h1 ⊢
    have d1 : decide ((512 : Int) < (n : Int)) = true := decide_eq_true (by omega)
    clear kd ko hnn ha hs hA htl
    go_enter Tryz.func47, Tryz.ntmps47
    go_wp2
    go_ret2
    rw [HE.out]
    exact ⟨⟨none, 0, rfl, Nat.le_refl _, Sl.nil _ _⟩, Below.refl _ _⟩
  have HN : Hid (l.length ≤ 512) := Lib.hid (by omega)
  rw [← hnn] at hn h1 ko kd htl ⊢
  have d1 : decide ((512 : Int) < (n : Int)) = false := decide_eq_false (by omega)
  have HA := Lib.hid hA; have HNN := Lib.hid hnn; have HAL := Lib.hid ha; have HS := Lib.hid hs; have KO := Lib.hid ko; have KD := Lib.hid kd; have HTL := Lib.hid htl
  clear hA hnn ha hs ko kd htl
  go_enter Tryz.func47, Tryz.ntmps47
  go_upto_block 0 with fail
  go_step
  go_loopw [4] (fun t4 wr => ∃ i : Nat, t4 = .int .i64 (i : Int) ∧ i ≤ n ∧ Hid ((l.take i).all okE = true) ∧ Hid (Below w.heap.size w wr)) (fun t4 _ => (n - intOf t4).toNat)
  case atStart => exact ⟨0, rfl, by omega, Lib.hid rfl, Lib.hid (Below.refl _ _)⟩
  case round =>
    obtain ⟨i, rfl, hi, HT, HBW⟩ := hrel
    by_cases hin : i < n
    · have hil : i < l.length := by rw [← HNN.out]; exact hin
      obtain ⟨ad, hA1, hse⟩ := Sl.ent HA.out HAL.out hil
      subst hA1
      obtain ⟨e, hee⟩ : ∃ e, e = gtE l i := ⟨_, rfl⟩
      have hem : e ∈ l := by rw [hee]; exact gtE_mem hil
      have ge : l[i]? = some e := by
        rw [hee]
        unfold gtE
        rw [List.getD_eq_getElem?_getD, List.getElem?_eq_getElem hil]; rfl
      have esz := HS.out e hem
      rw [← hee] at hse
      have cm := en_mode (hse.below HBW.out)
      have cn := en_name (hse.below HBW.out)
      have kn := fun w' => nameR_any e.name w' (by omega)
      have km := fun w' => modeR_any e.mode w'
      have hok : okE e = (!(modeD e.mode == []) && namedI e.name) := rfl
      obtain ⟨m, hm⟩ : ∃ m, m = e.mode := ⟨_, rfl⟩
      obtain ⟨nm, hnm⟩ : ∃ nm, nm = e.name := ⟨_, rfl⟩
      rw [← hm] at cm km hok
      rw [← hnm] at cn esz kn hok
      obtain ⟨d, hd⟩ : ∃ d, d = modeD m := ⟨_, rfl⟩
      rw [← hd] at km hok
      obtain ⟨p, hp⟩ : ∃ p, p = namedI nm := ⟨_, rfl⟩
      rw [← hp] at kn hok
      have LM := load_oneC (T := 3) (fun w => by kernel_rfl) cm
      have LN := load_oneC (T := 9) (fun w => by kernel_rfl) cn
      have FF : Hid (okE e = false → encTr l = ([], 1)) := Lib.hid (fun hf => if_pos (.inr (by
        cases hq : l.all okE with
        | false => rfl
        | true =>
          have := List.all_eq_true.1 hq _ hem
          rw [hf] at this
          cases this)))
      have FT : Hid (okE e = true → (l.take (i + 1)).all okE = true) := Lib.hid (fun ht => by
        rw [List.take_add_one, List.all_append, HT.out, ge]
        simp [ht])
      have HOK := Lib.hid hok; have KM := Lib.hid km; have KN := Lib.hid kn
      clear hee hem ge hil hm hnm hd hp hok cm cn hse HT km kn esz
      by_cases hde : d = []
      · have t : d.isEmpty = true := by rw [hde]; rfl
        have HF : Hid (encTr l = ([], 1)) := Lib.hid (FF.out (by rw [HOK.out, hde]; rfl))
        subst hde
        go_wp2_with (first
          | (refine wpList_loadG 3 (.tmp 18) rfl (ad.add (i * 22)) rfl _ LM rfl ?_)
          | (refine wpList_loadG 9 (.tmp 26) rfl ((ad.add (i * 22)).add 1) rfl _ LN rfl ?_)
          | (go_at_call 92; (with_reducible refine (KM.out _).mono ?_); rintro z w1 ⟨rfl, rfl⟩))
        go_ret2
        rw [HF.out]
        exact ⟨⟨none, 0, rfl, Nat.le_refl _, Sl.nil _ _⟩, HBW.out⟩
      · have t : d.isEmpty = false := by simpa using hde
        have HD : Hid ((d == []) = false) := Lib.hid (by simpa using hde)
        clear hde
        cases p with
        | false =>
          have HF : Hid (encTr l = ([], 1)) := Lib.hid (FF.out (by rw [HOK.out, HD.out]; rfl))
          go_wp2_with (first
            | (refine wpList_loadG 3 (.tmp 18) rfl (ad.add (i * 22)) rfl _ LM rfl ?_)
            | (refine wpList_loadG 9 (.tmp 26) rfl ((ad.add (i * 22)).add 1) rfl _ LN rfl ?_)
            | (go_at_call 92; (with_reducible refine (KM.out _).mono ?_); rintro z w1 ⟨rfl, rfl⟩)
            | (go_at_call 93; (with_reducible refine (KN.out _).mono ?_); rintro z w1 ⟨rfl, rfl⟩))
          go_ret2
          rw [HF.out]
          exact ⟨⟨none, 0, rfl, Nat.le_refl _, Sl.nil _ _⟩, HBW.out⟩
        | true =>
          have HT2 := Lib.hid (FT.out (by rw [HOK.out, HD.out]; rfl))
          go_wp2_with (first
            | (refine wpList_loadG 3 (.tmp 18) rfl (ad.add (i * 22)) rfl _ LM rfl ?_)
            | (refine wpList_loadG 9 (.tmp 26) rfl ((ad.add (i * 22)).add 1) rfl _ LN rfl ?_)
            | (go_at_call 92; (with_reducible refine (KM.out _).mono ?_); rintro z w1 ⟨rfl, rfl⟩)
            | (go_at_call 93; (with_reducible refine (KN.out _).mono ?_); rintro z w1 ⟨rfl, rfl⟩))
          go_roundw
          case rel => exact ⟨i + 1, by simp, by omega, HT2, HBW⟩
          case measure => simp only [intOf]; omega
    · have hle : i = n := by omega
      have hq : l.all okE = true := by
        have := HT.out
        rwa [hle, HNN.out, List.take_length] at this
      have hc1 : ¬ (512 < l.length ∨ l.all okE = false) := by
        rintro (h | h)
        · have := HN.out; omega
        · rw [hq] at h; cases h
      have hn512 : n ≤ 512 := by have := HN.out; rwa [← HNN.out] at this
      have ko := KO.out _ HBW.out
      have kd := fun w' (h : Below wr.heap.size wr w') => KD.out hq hn512 w' (HBW.out.trans (h.mono HBW.out.size))
      have htl := HTL.out hq
      obtain ⟨r, hr⟩ : ∃ r, r = ordE [] l := ⟨_, rfl⟩
      rw [← hr] at ko
      have HEF : Hid (r = false → encTr l = ([], 2)) := Lib.hid (fun h => by unfold encTr; rw [if_neg hc1, if_pos (by rw [← hr]; exact h)])
      have HET : Hid (r = true → encTr l = if 16384 < (treeB l).length then ([], 5) else (treeB l, 0)) := Lib.hid (fun h => by unfold encTr; rw [if_neg hc1, if_neg (by rw [← hr, h]; decide)])
      have KDD := Lib.hid kd
      clear hle hr hq hc1 HT kd hn512
      cases r with
      | false =>
        have HE := Lib.hid (HEF.out rfl)
        go_wp2_with (go_at_call 82; (with_reducible refine ko.mono ?_); rintro z w1 ⟨rfl, hb1⟩)
        go_ret2
        rw [HE.out]
        exact ⟨⟨none, 0, rfl, Nat.le_refl _, Sl.nil _ _⟩, HBW.out.trans (hb1.mono HBW.out.size)⟩
      | true =>
        have HE := Lib.hid (HET.out rfl)
        obtain ⟨T, hT⟩ : ∃ T, T = treeB l := ⟨_, rfl⟩
        rw [← hT] at HE KDD htl
        obtain ⟨nt, hnt⟩ : ∃ nt, nt = T.length := ⟨_, rfl⟩
        rw [← hnt] at HE KDD htl
        have HNT := Lib.hid hnt
        clear hT hnt
        by_cases hbig : 16384 < nt
        · have HX := HE.out
          rw [if_pos hbig] at HX
          have HX2 := Lib.hid HX
          have q1 : decide ((16384 : Int) < (nt : Int)) = true := decide_eq_true (by omega)
          clear HX hbig
          go_wp2_with (first
            | (go_at_call 82; (with_reducible refine ko.mono ?_); rintro z w1 ⟨rfl, hb1⟩)
            | (go_at_call 94; (with_reducible refine (KDD.out _ hb1).mono ?_); rintro z w2 ⟨⟨At, ct, rfl, hct, hst⟩, hb2⟩))
          go_ret2
          rw [HX2.out]
          exact ⟨⟨none, 0, rfl, Nat.le_refl _, Sl.nil _ _⟩, HBW.out.trans ((hb1.trans (hb2.mono hb1.size)).mono HBW.out.size)⟩
        · have HX := HE.out
          rw [if_neg hbig] at HX
          have HX2 := Lib.hid HX
          have q1 : decide ((16384 : Int) < (nt : Int)) = false := decide_eq_false (by omega)
          clear HX hbig
          go_wp2_with (first
            | (go_at_call 82; (with_reducible refine ko.mono ?_); rintro z w1 ⟨rfl, hb1⟩)
            | (go_at_call 94; (with_reducible refine (KDD.out _ hb1).mono ?_); rintro z w2 ⟨⟨At, ct, rfl, hct, hst⟩, hb2⟩; have HST := Lib.hid hst; clear hst))
          go_ret2
          rw [HX2.out]
          exact ⟨⟨At, ct, by rw [← HNT.out]; rfl, by rw [← HNT.out]; exact hct, HST.out⟩, HBW.out.trans ((hb1.trans (hb2.mono hb1.size)).mono HBW.out.size)⟩
theorem run_bldR {o : Oper} {a : Act} {w : World} (x y z : Operand) (ho : o.op = .build 80 #[(0, x), (1, y), (2, z)])
    (e : En) (h20 : e.id.length = 20) (hx : a.eval x = .int .i64 e.mode) (hy : a.eval y = .string (bstr e.name)) (hz : a.eval z = idv e.id) : (execOp (Act.eval a) o).run Tryz.prog w = .ok (.value (ev e)) w := by
  have hr := run_build (P := Tryz.prog) w 80 #[(0, .int .i64 e.mode), (1, .string (bstr e.name)), (2, idv e.id)] _ (builtR e h20)
  simp [execOp, ho, hx, hy, hz, hr, Result.andThen]
theorem entries_any (l : List En) (ha : EAll l) (hn : l.length ≤ 1000) (A : Option Addr) (cap : Nat) (w : World) (hA : Sl w A (ecs l)) :
    Calls Tryz.prog 38 #[.slice A l.length cap] w fun z w' => (∃ At ct, z = .returned (.slice At l.length ct) ∧ Sl w' At (ecs l)) ∧ Below w.heap.size w w' := by
  obtain ⟨n, hnn⟩ : ∃ n, n = l.length := ⟨_, rfl⟩
  rw [← hnn] at hn ⊢
  have HA := Lib.hid hA; have HNN := Lib.hid hnn; have HAL := Lib.hid ha
  clear hA hnn ha
  go_enter Tryz.func38, Tryz.ntmps38
  go_upto_block 0 with fail
  go_step
  go_loopw [3, 4] (fun t3 t4 wr => ∃ i : Nat, t4 = .int .i64 (i : Int) ∧ i ≤ n ∧ Hid (WinR wr w.heap.size t3 (l.take i)) ∧ Hid (Below w.heap.size w wr)) (fun _ t4 _ => (n - intOf t4).toNat)
  case atStart => exact ⟨0, rfl, by omega, Lib.hid (Win.nil _ _ _ _), Lib.hid (Below.refl _ _)⟩
  case round =>
    obtain ⟨i, rfl, hi, HW, HBW⟩ := hrel
    by_cases hin : i < n
    · have hil : i < l.length := by rw [← HNN.out]; exact hin
      obtain ⟨ad, hA1, hse⟩ := Sl.ent HA.out HAL.out hil
      subst hA1
      obtain ⟨e, hee⟩ : ∃ e, e = gtE l i := ⟨_, rfl⟩
      have e20 : e.id.length = 20 := by rw [hee]; exact HAL.out _ (gtE_mem hil)
      have ge : l[i]? = some e := by
        rw [hee]
        unfold gtE
        rw [List.getD_eq_getElem?_getD, List.getElem?_eq_getElem hil]; rfl
      rw [← hee] at hse
      have TK : Hid (l.take (i + 1) = l.take i ++ [e]) := Lib.hid (by rw [List.take_add_one, ge]; rfl)
      have TKL : Hid ((l.take i).length ≤ 1000) := Lib.hid (by rw [List.length_take]; omega)
      have E20 := Lib.hid e20
      have hblk := en_blk hse
      obtain ⟨ae, hae⟩ : ∃ ae, ae = ad.add (i * 22) := ⟨_, rfl⟩
      rw [← hae] at hse hblk
      have hno : ¬ u3.ownBlock = some ae.block := fun h => by have := (HW.out.block _ h).1; omega
      have cm := en_mode (hse.below HBW.out)
      have cn := en_name (hse.below HBW.out)
      have ci := en_id e20 (hse.below HBW.out)
      have LM := Lib.hid (fun w' (h : Kp (fun k => u3.ownBlock = some k) wr w') => load_oneC (T := 3) (fun w => by kernel_rfl) (h.cell cm hno))
      have LN := Lib.hid (fun w' (h : Kp (fun k => u3.ownBlock = some k) wr w') => load_oneC (T := 9) (fun w => by kernel_rfl) (h.cell cn (by rw [add_block]; exact hno)))
      have LI := Lib.hid (fun w' (h : Kp (fun k => u3.ownBlock = some k) wr w') => load_id e.id e20 (ae.add 2) w' (Sl.kp ci h (fun x hx => by injection hx with hx; subst hx; rw [add_block]; exact hno)))
      rw [hae] at LM LN LI
      clear hee ge hil e20 hblk hno cm cn ci hse hae
      go_upto_region 5 with fail
      refine wp_region_plan [(0, false), (1, false), (2, false), (3, false), (4, false), (5, false), (6, false), (7, false), (8, false), (9, false), (10, false), (11, false), (12, false), (13, false), (14, false), (15, false), (16, false), (17, true), (18, true), (19, false)] (fun u v => Kp (fun k => u3.ownBlock = some k) u v) (fun w => Kp.refl _ _) (fun _ _ _ h k => h.trans k) (by kernel_rfl) (by kernel_rfl) ?_
      iterate 17 (refine wpG_still _ rfl rfl ?_; first
        | (refine wpQuiet_load 3 (.tmp 15) rfl (ad.add (i * 22)) rfl (.int .i64 e.mode) (fun w' h => LM.out w' (kp_ofDrew h)) _ rfl rfl ?_; simp only [List.set_cons_succ, List.set_cons_zero])
        | (refine wpQuiet_load 9 (.tmp 20) rfl ((ad.add (i * 22)).add 1) rfl (.string (bstr e.name)) (fun w' h => LN.out w' (kp_ofDrew h)) _ rfl rfl ?_; simp only [List.set_cons_succ, List.set_cons_zero])
        | (refine wpQuiet_load 27 (.tmp 25) rfl ((ad.add (i * 22)).add 2) rfl (idv e.id) (fun w' h => LI.out w' (kp_ofDrew h)) _ rfl rfl ?_; simp only [List.set_cons_succ, List.set_cons_zero])
        | (refine wpQuiet_pureC 27 rfl rfl (ev e) (fun w _ => run_bldR (.tmp 16) (.tmp 21) (.tmp 26) rfl e E20.out rfl rfl rfl) ?_; simp only [List.set_cons_succ, List.set_cons_zero])
        | (go_big_quiet_step ((intro hb; rfl))); refine wpQuiet_nil ?_)
      have bdr : Below w.heap.size w wr.drew := HBW.out.drew
      refine wpG_value _ rfl rfl _ (run_oneR (w := wr.drew) (.tmp 27) rfl e E20.out rfl) ((Kp.refl _ _).alloc _) ?_
      simp only [Act.put, List.setIfInBounds_toArray, List.set_cons_succ, List.set_cons_zero]
      obtain ⟨W5, hW5⟩ : ∃ W5, W5 = wr.drew.alloc (.cells (ecell e).toArray 80) := ⟨_, rfl⟩
      have b5 : Below wr.drew.heap.size wr.drew W5 := by rw [hW5]; exact (Below.refl _ _).alloc (Nat.le_refl _) _
      have s5 : Sl W5 (some ⟨wr.drew.heap.size, 0, none⟩) (ecs [e]) := by
        rw [hW5, ecs_single]
        exact Sl.of_block (heap_alloc_new _ _) (fun j v hj => by simpa using hj)
      rw [← hW5]
      have hw5 : WinR W5 w.heap.size u3 (l.take i) := (HW.out.below (Below.refl wr.heap.size wr).drew).below b5
      have B5 := bdr.trans (b5.mono bdr.size)
      obtain ⟨v7, w7, hrun, hw7, hk7, ho7⟩ := run_appR hw5 (some ⟨wr.drew.heap.size, 0, none⟩) 1 1 [e] rfl (fun x hx => by obtain rfl := List.mem_singleton.1 hx; exact E20.out) s5 (by have := TKL.out; simp only [List.length_singleton]; omega) B5.size 72
      refine wpG_value _ rfl rfl v7 (run_appOp (.tmp 11) (.tmp 28) 72 72 rfl u3 _ _ rfl rfl hrun) hk7 ?_
      simp only [Act.put, List.setIfInBounds_toArray, List.set_cons_succ, List.set_cons_zero]
      iterate 1 (refine wpG_still _ rfl rfl ?_; go_big_quiet_step ((intro hb; rfl)); refine wpQuiet_nil ?_)
      refine wpG_nil ?_
      have HW7 : Hid (WinR w7 w.heap.size v7 (l.take (i + 1))) := Lib.hid (by rw [TK.out]; exact hw7)
      have BW7 := Lib.hid (B5.trans (hk7.toBelow B5.size (fun k hk h => by have := (HW.out.block _ h).1; omega)))
      clear hrun hw7 hk7 ho7 hW5 b5 s5 hw5 B5 bdr
      go_wp2
      go_roundw
      case rel => exact ⟨i + 1, by simp, by omega, HW7, BW7⟩
      case measure => simp only [intOf]; omega
    · have hle : i = n := by omega
      have HWF : Hid (WinR wr w.heap.size u3 l) := Lib.hid (by
        have := HW.out
        rwa [hle, HNN.out, List.take_length] at this)
      clear hle HW
      go_wp2
      go_ret
      obtain ⟨At, ct, rfl, hct, hmt, hst⟩ := HWF.out.reads
      exact ⟨⟨At, ct, by rw [HNN.out]; rfl, hst⟩, HBW.out⟩
end
section
open Go.RowKit
set_option maxRecDepth 100000
set_option linter.unusedVariables false
def db64 : List Int := [0, 1, 56, 2, 57, 49, 28, 3, 61, 58, 42, 50, 38, 29, 17, 4, 62, 47, 59, 36, 45, 43, 51, 22, 53, 39, 33, 30, 24, 18, 12, 5, 63, 55, 48, 27, 60, 41, 37, 16, 46, 35, 44, 21, 52, 32, 23, 11, 54, 26, 40, 15, 34, 20, 31, 10, 25, 14, 19, 9, 13, 8, 7, 6]
theorem gz_of {W : World} {l : List (String × DataW Unit)} (hp : (l.filter fun x => x.2.handleName?.isSome) = []) (hm : ("math/bits.deBruijn64tab", Lib.tabData .u8 db64) ∈ l) (h : laidMetH Tryz.prog l W) : Gz W := by
  have h' : laidMet Tryz.prog l W := by
    unfold laidMetH at h
    rw [hp] at h
    exact h
  obtain ⟨ps, hv, _⟩ := h'
  have ht := tabIs_of_vars (g := 5) (t := 175) (e := 5) (n := 64) (by kernel_rfl) (by kernel_rfl) Tryz.underlying175 Tryz.underlying5 (by kernel_rfl) (by kernel_rfl) hv hm
  exact ht.cell (g := 5) (by kernel_rfl) 7 (by decide)
end
section
open Go.RowKit Go.ChangeShapes Go.WideShapes
set_option maxRecDepth 100000
set_option maxHeartbeats 4000000
set_option linter.unusedVariables false
theorem ent_of_trod {H : Type} {enc : TypeId × Value → H} {W : World} {base : Nat} {sp : Nat → Bool} {held : Bool} {fuel : Nat} {cs : List Value} {x : DataW H × List MemPlace}
    (hlen : cs.length = 22) (hf : DataW.trod enc Tryz.prog W base sp held fuel 40 cs = some x) : ∃ e : En, cs = ecell e ∧ e.id.length = 20 := by
  have c3 : Tryz.prog.cellsOf 3 = 1 := by kernel_rfl
  have c9 : Tryz.prog.cellsOf 9 = 1 := by kernel_rfl
  have cI : Tryz.prog.cellsOf 27 = 20 := by kernel_rfl
  obtain ⟨xs, n, _, _, hl, hln, hfs⟩ := DataW.trod_struct Tryz.underlying40 hf
  have h0 := hfs 0 _ rfl
  have h1 := hfs 1 _ rfl
  have h2 := hfs 2 _ rfl
  simp only [List.getElem_toArray, List.getElem_cons_zero, List.getElem_cons_succ] at h0 h1 h2
  rw [c3, List.drop_zero] at h0
  rw [c9] at h1
  rw [cI] at h2
  obtain ⟨y0, hy0⟩ : ∃ y, xs[0]? = some y := ⟨xs[0]'(by rw [hln]; decide), List.getElem?_eq_getElem _⟩
  obtain ⟨y1, hy1⟩ : ∃ y, xs[1]? = some y := ⟨xs[1]'(by rw [hln]; decide), List.getElem?_eq_getElem _⟩
  obtain ⟨y2, hy2⟩ : ∃ y, xs[2]? = some y := ⟨xs[2]'(by rw [hln]; decide), List.getElem?_eq_getElem _⟩
  rw [hy0] at h0
  rw [hy1] at h1
  rw [hy2] at h2
  obtain ⟨m, e0, _, _⟩ := DataW.trod_int Tryz.underlying3 h0
  obtain ⟨s, e1, _, _⟩ := DataW.trod_string Tryz.underlying9 h1
  obtain ⟨l, e2, hl20⟩ := id_of_trod Tryz.underlying27 (by kernel_rfl) (by rw [List.length_take, List.length_drop, hlen]; rfl) h2
  have ht : cs = cs.take 1 ++ (cs.drop 1).take 1 ++ (cs.drop 2).take 20 := by
    rw [List.take_of_length_le (l := cs.drop 2) (by rw [List.length_drop, hlen]; decide), ← List.take_add, List.take_append_drop]
  refine ⟨⟨m, s.data.toList, l⟩, ?_, hl20⟩
  rw [ht, e0, e1, e2]
  show _ = Value.int .i64 m :: Value.string ⟨s.data.toList.toArray⟩ :: bvs l
  simp
theorem ents_of_trod {H : Type} {enc : TypeId × Value → H} {w : World} {base : Nat} {held : Bool} {fuel : Nat} {A : Option Addr} {n c : Nat} {x : DataW H × List MemPlace}
    (h : DataW.trod enc Tryz.prog w base (fun _ => true) held fuel 69 [.slice A n c] = some x) : ∃ l : List En, n = l.length ∧ l.length ≤ c ∧ c ≤ maxLen ∧ EAll l ∧ Sl w A (ecs l) := by
  rcases Go.Deep.open_slice Tryz.underlying69 h with ⟨hcs, _⟩ | ⟨a, len, cap, m, k, D, Pl, hcs, hb, hl, hm, hmm, _, hx⟩
  · simp at hcs
    obtain ⟨rfl, rfl, rfl⟩ := hcs
    exact ⟨[], rfl, by simp, by simp, fun x hx => by simp at hx, Sl.nil _ _⟩
  · simp at hcs
    obtain ⟨rfl, rfl, rfl⟩ := hcs
    simp only [if_true] at hmm
    have ce : Tryz.prog.cellsOf 40 = 22 := by kernel_rfl
    have each : ∀ i, i < n → ∃ y : En, y.id.length = 20 ∧ Sl w (some (a.add (i * 22))) (ecell y) := by
      intro i hi
      obtain ⟨cs', h1, h2⟩ := hx i (by omega)
      rw [ce] at h1
      obtain ⟨_, hlen, hcell⟩ := World.cells?_some h1
      obtain ⟨y, e, hy⟩ := ent_of_trod hlen h2
      refine ⟨y, hy, fun j v hj => ⟨_, rfl, ?_⟩⟩
      have hj20 : j < 22 := by
        have := (List.getElem?_eq_some_iff.1 hj).1
        rw [← e, hlen] at this
        exact this
      rw [hcell j hj20, e]
      exact hj
    haveI : Inhabited En := ⟨⟨0, [], []⟩⟩
    obtain ⟨V, hV⟩ := Go.Deep.choose_lt each
    have h20 : EAll ((List.range n).map V) := fun x hx => by
      obtain ⟨i, hi, rfl⟩ := List.mem_map.1 hx
      exact (hV i (by simpa using hi)).1
    refine ⟨(List.range n).map V, by simp, by simpa using hl, hm, h20, fun j v hj => ?_⟩
    have hlt := (List.getElem?_eq_some_iff.1 hj).1
    rw [ecs_len _ h20] at hlt
    simp at hlt
    have hi : j / 22 < n := by omega
    have e : j / 22 * 22 + j % 22 = j := by omega
    rw [← e, ecs_at _ h20 (j / 22) (j % 22) (by simpa using hi) (by omega)] at hj
    have eV : gtE ((List.range n).map V) (j / 22) = V (j / 22) := by
      unfold gtE
      rw [List.getD_eq_getElem?_getD]
      simp [hi]
    rw [eV] at hj
    obtain ⟨ad, e2, hc⟩ := (hV (j / 22) hi).2 (j % 22) v hj
    injection e2 with e2
    subst e2
    rw [Addr.add_add, e] at hc
    exact ⟨_, rfl, hc⟩
end
end Go.Proofs.YtcedfapcpmedfaaGreatDoor
