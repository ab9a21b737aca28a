/- OidCounts answers true. Conditions: each name has twenty bytes. -/
import Derived.Test.YtjiiploleinobaaSho6
namespace Go.Proofs.Ytjiiploleinobaa
open Go.RowKit
open Go.Sort (ltStr)
set_option maxRecDepth 100000
set_option maxHeartbeats 4000000
set_option linter.unusedVariables false
theorem fan_all (l : List (List UInt8)) : fan l 255 = l.length := by
  unfold fan
  exact List.countP_eq_length.2 (fun x _ => decide_eq_true (by have := fst8_lt x; omega))
theorem fan_diff (l : List (List UInt8)) (i : Nat) : (fan l i : Int) - ((if 0 < i then fan l (i - 1) else 0 : Nat) : Int) = (cnt l i : Int) := by
  cases i with
  | zero => have := fan_zero l; simp; omega
  | succ j =>
    have := fan_succ l j
    rw [if_pos (by omega), show j + 1 - 1 = j by omega]
    omega
theorem fk_self {l : List (List UInt8)} (h : Ris l) (i : Nat) (hi : i < l.length) : fk l (l.getD i []) = i ∧ fis l (l.getD i []) = true := by
  have hk : fk l (l.getD i []) = i := fk_of l _ i (by omega) (fun j hj => by
    simp only [ltStr, decide_eq_true_eq]
    exact ris_lt h hj hi) (fun _ => lt_same _)
  refine ⟨hk, ?_⟩
  unfold fis
  rw [hk]
  exact decide_eq_true ⟨hi, rfl⟩
theorem counts_big (l : List (List UInt8)) (hn : 60 < l.length) (hm : l.length ≤ maxLen) (A : Option Addr) (c : Nat) (w : World) :
    Calls Try.prog 7 #[.slice A l.length c] w fun e w' => e = .returned (.bool true) ∧ Below w.heap.size w w' := by
  generalize l.length = n at *
  go_enter Try.func7, Try.ntmps7
  go_wp2_with (go_at_call 8; (with_reducible refine (known_any _).mono ?_); rintro e w1 ⟨rfl, hb1⟩)
  go_ret
  exact ⟨rfl, hb1⟩
/-- one name of the row: its shortest front leads to it, and one sign less to several -/
theorem cell0 {w : World} {ad : Addr} {x : List UInt8} (h : Sl w (some ad) (bvs x)) (hx : x.length = 20) : w.cell? ad = some (.int .u8 (fst8 x : Int)) := by
  obtain ⟨ad', e, hc⟩ := Bs.at h (j := 0) (by omega)
  injection e with e
  subst e
  have : ad.add 0 = ad := by unfold Addr.add; split <;> simp_all
  rw [this] at hc
  rw [hc]
  unfold fst8
  rw [List.getD_eq_getElem?_getD, List.getElem?_eq_getElem (by omega)]
  rfl
theorem counts_any (l : List (List UInt8)) (h20 : All20 l) (hn : l.length ≤ 60) (A : Option Addr) (c : Nat) (h0 : A = none → c = 0) (w : World) (hA : Sl w A (idc l)) :
    Calls Try.prog 7 #[.slice A l.length c] w fun e w' => e = .returned (.bool true) ∧ Below w.heap.size w w' := by
  have ks := fun w1 (h : Sl w1 A (idc l)) => sort14 all_pq l h20 (by omega) A c w1 h h0
  have HA := Lib.hid hA; have H20 := Lib.hid h20
  obtain ⟨n, hnn⟩ : ∃ n, n = l.length := ⟨_, rfl⟩
  rw [← hnn] at ks hn ⊢
  have HN := Lib.hid hnn
  clear hA h20 hnn h0
  go_enter Try.func7, Try.ntmps7
  go_upto_region 5 with (go_at_call 8; (with_reducible refine (known_any _).mono ?_); rintro e w1 ⟨rfl, hb1⟩)
  have k1 := ks w1 (HA.out.below hb1)
  clear ks
  go_upto_region 6 with (go_at_call 14; (with_reducible refine k1.mono ?_); rintro e w2 ⟨A2, L, rfl, hS2⟩)
  have b2 := hb1.trans (hS2.below.mono hb1.size)
  have L20 : All20 L := fun x hx => H20.out x ((hS2.mem x).1 hx)
  have hml : L.length ≤ 60 := by have := hS2.len; have := HN.out; omega
  have HS2 := Lib.hid hS2.sl
  have HR := Lib.hid hS2.ris
  have HL20 := Lib.hid L20
  have kh := fanout_any L L20 (by omega) A2 L.length w2 hS2.sl
  have ksh := fun id (hid : id.length = 20) w (hA : Sl w A2 (idc L)) => short_any L HR.out L20 (by omega) A2 L.length id hid w hA
  have kma := fun s (hs : s.size ≤ 1099511627776) w (hA : Sl w A2 (idc L)) => match_any L L20 (by omega) A2 L.length s hs w hA
  have kfi := fun id (hid : id.length = 20) w (hA : Sl w A2 (idc L)) => find_any L HR.out L20 (by omega) A2 L.length id hid w hA
  obtain ⟨T, hT⟩ : ∃ T, T = tab (fan L) := ⟨_, rfl⟩
  have z44 : (Try.prog.info? 44).map (·.size) = some (tab (fan L)).size := by rw [tab_size]; kernel_rfl
  have Z44 := Lib.hid z44
  rw [← hT] at kh Z44
  have HT := Lib.hid hT
  have TO := Lib.hid (tab_one (fan L))
  rw [← hT] at TO
  obtain ⟨m, hmm⟩ : ∃ m, m = L.length := ⟨_, rfl⟩
  have hml2 := hml
  rw [← hmm] at hml2
  simp only [← hmm] at kh ksh kma kfi ⊢
  have HM := Lib.hid hmm
  have KSH := Lib.hid ksh; have KMA := Lib.hid kma; have KFI := Lib.hid kfi
  clear hS2 k1 hb1 L20 z44 hT hmm ksh kma kfi hml
  go_upto_region 7 with (first
    | (go_at_call 19; (with_reducible refine kh.mono ?_); rintro e w7 ⟨rfl, hb7⟩)
    | (refine wpList_store_row rfl 44 (.tmp 4) (.tmp 26) rfl w7.heap.size T rfl rfl 44 Try.zeroCells44 (heap_alloc_new _ _) Z44.out (by rw [HT.out, tab_size, zero44, tab_size]) TO.out ?_))
  obtain ⟨r8, b8⟩ := new_set w7 44 Try.zeroCells44 T
  obtain ⟨W8, hW8⟩ : ∃ W8, W8 = (w7.alloc (.cells Try.zeroCells44 44)).setRow w7.heap.size T := ⟨_, rfl⟩
  obtain ⟨g8, hg8⟩ : ∃ g8, g8 = w7.heap.size := ⟨_, rfl⟩
  rw [← hW8] at r8 b8 ⊢
  rw [← hg8] at r8
  simp only [← hg8]
  have c8 := b2.trans ((hb7.trans (b8.mono hb7.size)).mono b2.size)
  have S8 := Lib.hid ((HS2.out.below hb7).below b8)
  have cells8 : ∀ (W : World), Below W8.heap.size W8 W → ∀ i, i < 256 → W.cell? ⟨g8, i, none⟩ = some (.int .i64 (fan L i : Int)) := fun W hb i hi => by
    rw [cell_of_row _ _ _ _ _ _ ((hb.block _ (Array.getElem?_eq_some_iff.1 r8).1).trans r8), HT.out]
    exact tab_at _ i hi
  have CE := Lib.hid cells8
  have f255 : W8.cell? ⟨g8, 255, none⟩ = some (.int .i64 (m : Int)) := by
    have := cells8 W8 (Below.refl _ _) 255 (by omega)
    rwa [fan_all, ← HM.out] at this
  have hq : ((m : Int) != (m : Int)) = false := by simp
  have C8 := Lib.hid c8
  clear hW8 r8 b8 hg8 hb7 kh b2 HS2 Z44 TO cells8 c8
  go_upto_region 9 with (fail)
  clear f255 hq
  go_wp2_with fail
  go_loopw [5] (fun t5 wr => ∃ i : Nat, t5 = .int .i64 (i : Int) ∧ i ≤ 256 ∧ Below W8.heap.size W8 wr) (fun t5 _ => (256 - intOf t5).toNat)
  case atStart => exact ⟨0, rfl, by omega, Below.refl _ _⟩
  case round =>
    obtain ⟨i, rfl, hi, hbw⟩ := hrel
    by_cases h256 : i < 256
    · go_wp2_with fail
      go_loopw [6, 7] (fun t6 t7 wq => ∃ q k : Nat, t6 = .int .i64 (q : Int) ∧ t7 = .int .i64 (k : Int) ∧ k ≤ m ∧ q ≤ k ∧ Hid (q = cnt (L.take k) i) ∧ Below W8.heap.size W8 wq) (fun _ t7 _ => (m - intOf t7).toNat)
      case atStart => exact ⟨0, 0, rfl, rfl, by omega, by omega, Lib.hid (by simp [cnt]), hbw⟩
      case round =>
        obtain ⟨q, k, rfl, rfl, hk, hqk, HQ, hbq⟩ := hrel
        by_cases hkm : k < m
        · have hkl : k < L.length := by rw [← HM.out]; exact hkm
          obtain ⟨ad, rfl⟩ : ∃ ad, A2 = some ad := by
            cases A2 with
            | some ad => exact ⟨ad, rfl⟩
            | none =>
              have := sl_none S8.out HL20.out
              rw [this] at hkl
              simp at hkl
          have hc := cell0 ((sl_row S8.out HL20.out k hkl).below hbq) (get20 HL20.out k hkl)
          have hs := cnt_snoc L k hkl i
          have hf8 := fst8_lt (L.getD k [])
          obtain ⟨x, hx⟩ : ∃ x, x = fst8 (L.getD k []) := ⟨_, rfl⟩
          rw [← hx] at hc hs hf8
          clear hx
          by_cases hxi : x = i
          · subst hxi
            rw [if_pos rfl, ← HQ.out] at hs
            have HS := Lib.hid hs
            have he : ((x : Int) == (x : Int)) = true := beq_self_eq_true _
            clear hs
            go_wp2
            go_roundw
            case rel => exact ⟨q + 1, k + 1, by simp, by simp, by omega, by omega, Lib.hid HS.out.symm, hbq⟩
            case measure => simp only [intOf]; omega
          · rw [if_neg (fun e => hxi e.symm), ← HQ.out] at hs
            have HS := Lib.hid hs
            have he : ((x : Int) == (i : Int)) = false := beq_eq_false_iff_ne.2 (by omega)
            have he2 : ¬ (x : Int) = (i : Int) := by omega
            clear hs
            go_wp2
            go_roundw
            case rel => exact ⟨q, k + 1, rfl, by simp, by omega, by omega, Lib.hid HS.out.symm, hbq⟩
            case measure => simp only [intOf]; omega
        · obtain rfl : k = m := by omega
          have hq := HQ.out
          rw [HM.out, List.take_of_length_le (Nat.le_refl _)] at hq
          have hd := fan_diff L i
          rw [← hq] at hd
          have ci := CE.out _ hbq i h256
          have fle := fan_le L i
          rw [← HM.out] at fle
          obtain ⟨fi, hfi⟩ : ∃ fi, fi = fan L i := ⟨_, rfl⟩
          rw [← hfi] at hd ci fle
          by_cases hi0 : 0 < i
          · obtain ⟨j, rfl⟩ : ∃ j, i = j + 1 := ⟨i - 1, by omega⟩
            have cj := CE.out _ hbq j (by omega)
            rw [if_pos hi0, show j + 1 - 1 = j by omega] at hd
            have gle := fan_le L j
            rw [← HM.out] at gle
            obtain ⟨fj, hfj⟩ : ∃ fj, fj = fan L j := ⟨_, rfl⟩
            rw [← hfj] at hd cj gle
            have hw : IntKind.i64.wrap (((j + 1 : Nat) : Int) - 1) = (j : Int) := by rw [IntWalk.i64_in _ (by omega)]; omega
            have he : (((fi : Int) - (fj : Int)) != (q : Int)) = false := by rw [hd]; simp
            have hw2 : IntKind.i64.wrap ((fi : Int) - (fj : Int)) = (q : Int) := by rw [IntWalk.i64_in _ (by omega)]; exact hd
            have he3 : ((q : Int) != (q : Int)) = false := by simp
            have HD := Lib.hid hd
            clear hd hq hfi hfj
            go_wp2
            go_roundw
            case rel => exact ⟨j + 1 + 1, by simp, by omega, hbq⟩
            case measure => simp only [intOf]; omega
          · obtain rfl : i = 0 := by omega
            rw [if_neg (by omega)] at hd
            have hw2 : IntKind.i64.wrap ((fi : Int) - 0) = (q : Int) := by rw [IntWalk.i64_in _ (by omega)]; omega
            have he3 : ((q : Int) != (q : Int)) = false := by simp
            obtain rfl : fi = q := by omega
            clear hd hq hfi
            go_wp2
            go_roundw
            case rel => exact ⟨1, rfl, by omega, hbq⟩
            case measure => simp only [intOf]; omega
    · have hd5 : decide ((i : Int) < 256) = false := decide_eq_false (by omega)
      obtain ⟨i5, hi5⟩ : ∃ i5 : Int, i5 = (i : Int) := ⟨_, rfl⟩
      rw [← hi5] at hd5 ⊢
      clear hi5
      go_wp2_with fail
      clear hd5
      go_loopw [9] (fun t9 wq => ∃ i : Nat, t9 = .int .i64 (i : Int) ∧ i ≤ m ∧ Below W8.heap.size W8 wq) (fun t9 _ => (m - intOf t9).toNat)
      case atStart => exact ⟨0, rfl, by omega, hbw⟩
      case round =>
        clear hbw
        obtain ⟨i, rfl, him, hbw⟩ := hrel
        by_cases hi : i < m
        · have hil : i < L.length := by rw [← HM.out]; exact hi
          obtain ⟨ad, rfl⟩ : ∃ ad, A2 = some ad := by
            cases A2 with
            | some ad => exact ⟨ad, rfl⟩
            | none =>
              have := sl_none S8.out HL20.out
              rw [this] at hil
              simp at hil
          have R := (sl_row S8.out HL20.out i hil).below hbw
          have x20 := get20 HL20.out i hil
          have SW := S8.out.below hbw
          have m1 := match_short HR.out HL20.out i hil
          have m2 := match_less HR.out HL20.out i hil
          obtain ⟨k1, k2⟩ := fk_self HR.out i hil
          have s4 : 4 ≤ shN L i ∧ shN L i ≤ 40 := by unfold shN; omega
          obtain ⟨u, hu⟩ : ∃ u, u = shN L i := ⟨_, rfl⟩
          rw [← hu] at m1 m2 s4
          have hsI : shortI L i true (L.getD i []) = ((hexs (L.getD i [])).take u, 0) := by rw [hu]; rfl
          have ksh := KSH.out (L.getD i []) x20
          have kma := KMA.out
          have kfi := KFI.out (L.getD i []) x20
          rw [k1, k2] at ksh kfi
          rw [hsI] at ksh
          obtain ⟨x, hx⟩ : ∃ x, x = L.getD i [] := ⟨_, rfl⟩
          rw [← hx] at R x20 m1 m2 ksh kfi
          clear hsI k1 k2 hx hu
          obtain ⟨sh, hsh⟩ : ∃ sh, sh = (hexs x).take u := ⟨_, rfl⟩
          have hsl : sh.length = u := by rw [hsh, List.length_take, hexs_len, x20]; omega
          have hse : (bstr sh).extract 0 (u - 1) = bstr ((hexs x).take (u - 1)) := by rw [hsh, ext_nat, List.take_take, Nat.min_eq_left (by omega)]
          have hsf : (bstr (hexs x)).extract 0 u = bstr sh := by rw [hsh, ext_nat]
          simp only [← hsh] at ksh
          rw [← hsh] at m1
          have kma1 := fun w (hA : Sl w (some ad) (idc L)) => kma (bstr sh) (by rw [bstr_size]; omega) w hA
          have kma2 := fun w (hA : Sl w (some ad) (idc L)) => kma (bstr ((hexs x).take (u - 1))) (by rw [bstr_size, List.length_take, hexs_len, x20]; omega) w hA
          have e1 : ∀ l : List UInt8, (bstr l).data.toList = l := fun l => by simp
          simp only [m1] at kma1
          have lx := load_id x x20 _ _ R
          have ksh1 := ksh wr SW
          have HRx := Lib.hid R; have HX := Lib.hid x20; have HSW := Lib.hid SW; have HSL := Lib.hid hsl
          have HSE := Lib.hid hse; have HSF := Lib.hid hsf; have M2 := Lib.hid m2
          have HBW := Lib.hid hbw
          obtain ⟨s4, s40⟩ := s4
          clear R x20 SW m1 m2 ksh kma hse hsf hsl hsh e1 hbw
          go_upto_region 27 with (first
            | (refine wpList_loadG 23 (.tmp 75) rfl (ad.add (i * 20)) rfl (idv x) lx rfl ?_)
            | (go_at_call 22; (with_reducible refine ksh1.mono ?_); rintro e w1 ⟨rfl, hb1⟩))
          have km1 := kma1 w1 (HSW.out.below hb1)
          have zx := Lib.hid (info23 x HX.out)
          have hlx : (bvs zs20).toArray.size = (bvs x).toArray.size := by simp [HX.out, zs20_len]
          have HLX := Lib.hid hlx
          clear hlx kma1
          go_upto_region 28 with (first
            | (go_at_call 24; (with_reducible refine km1.mono ?_); rintro e w2 ⟨rfl, hb2⟩)
            | (refine wpList_store_row rfl 23 (.tmp 12) (.tmp 84) rfl w2.heap.size (bvs x).toArray rfl rfl 23 (bvs zs20).toArray (heap_alloc_new _ _) zx.out HLX.out (one_bvs _) ?_))
          simp only [zlit]
          obtain ⟨r3, b3⟩ := new_set w2 23 (bvs zs20).toArray (bvs x).toArray
          obtain ⟨W3, hW3⟩ : ∃ W3, W3 = (w2.alloc (.cells (bvs zs20).toArray 23)).setRow w2.heap.size (bvs x).toArray := ⟨_, rfl⟩
          obtain ⟨g3, hg3⟩ : ∃ g3, g3 = w2.heap.size := ⟨_, rfl⟩
          rw [← hW3] at r3 b3 ⊢
          rw [← hg3] at r3
          simp only [← hg3]
          have c3 := hb1.trans ((hb2.trans (b3.mono hb2.size)).mono hb1.size)
          have X3 : Sl W3 (some ⟨g3, 0, none⟩) (bvs x) := Sl.of_block r3 (fun j v hj => by simpa using hj)
          have lx3 := load_id x HX.out _ _ (HRx.out.below c3)
          have kf3 := kfi W3 (HSW.out.below c3)
          have HC3 := Lib.hid c3; have HX3 := Lib.hid X3
          clear hW3 r3 b3 hg3 c3 X3 hb1 hb2 km1 kfi ksh1 lx
          go_upto_region 29 with (first
            | (refine wpList_loadG 23 (.tmp 90) rfl (ad.add (i * 20)) rfl (idv x) lx3 rfl ?_)
            | (go_at_call 17; (with_reducible refine kf3.mono ?_); rintro e w4 ⟨rfl, hb4⟩))
          have RR4 := (HRx.out.below HC3.out).below hb4
          have X4 := HX3.out.below hb4
          have l1 : ∀ w', Below w4.heap.size w4 w' → (loadVar 23 (ad.add (i * 20))).run Try.prog w' = .ok (idv x) w' := fun w' h => load_id x HX.out _ _ (RR4.below h)
          have l2 : ∀ w', Below w4.heap.size w4 w' → (loadVar 23 ⟨g3, 0, none⟩).run Try.prog w' = .ok (idv x) w' := fun w' h => load_id x HX.out _ _ (X4.below h)
          have c1 : ∀ w', Below w4.heap.size w4 w' → Calls Try.prog 11 #[idv x] w' fun e w'' => e = .returned (.string (bstr (hexs x))) ∧ Below w4.heap.size w4 w'' := fun w' h => quietB h (hex_any x w' HX.out)
          have e2 : ∀ w, (Op.equalIn 10000 23 (idv x) (idv x)).run Try.prog w = .ok true w := fun w => by rw [eqlIn_run 23 Try.underlying23 x x HX.out HX.out w, decide_eq_true rfl]
          have L1 := Lib.hid l1; have L2 := Lib.hid l2
          clear l1 l2 RR4 X4 kf3 lx3
          have hq : (sh == ((bstr (hexs x)).extract 0 u).toList) = true := by rw [HSF.out, Lib.toList_data]; simp
          have hii : ((i : Int) == (i : Int)) = true := beq_self_eq_true _
          have hu4 : decide ((u : Int) < 4) = false := decide_eq_false (by omega)
          have hlen : (bstr sh).size = u := by rw [bstr_size, HSL.out]
          have hh1 : 40 ≤ (hexs x).length := by rw [hexs_len, HX.out]; exact Nat.le_refl _
          have hh2 : (hexs x).length ≤ 40 := by rw [hexs_len, HX.out]; exact Nat.le_refl _
          have hh3 : sh.length = u := HSL.out
          refine wp_region_quietC (C := fun w' => Below w4.heap.size w4 w') (Below.refl _ _).drew (by kernel_rfl) (by kernel_rfl) ?_
          repeat (first
            | (refine wpQuiet_load 23 (.tmp 12) rfl ⟨g3, 0, none⟩ rfl (idv x) L2.out _ rfl rfl ?_; simp only [List.set_cons_succ, List.set_cons_zero])
            | (refine wpQuiet_load 23 (.tmp 103) rfl (ad.add (i * 20)) rfl (idv x) L1.out _ rfl rfl ?_; simp only [List.set_cons_succ, List.set_cons_zero])
            | (refine wpQuiet_load 23 (.tmp 125) rfl (ad.add (i * 20)) rfl (idv x) L1.out _ rfl rfl ?_; simp only [List.set_cons_succ, List.set_cons_zero])
            | go_big_quiet_step ((intro hb; first | (with_reducible exact c1 _ hb) | rfl)))
          refine wpQuiet_nil ?_
          intro w5 hw5
          clear hq hh1 hh2 e2 c1 L1 L2 hu4 hlen
          have b5 := HC3.out.trans (hb4.trans (hw5.mono hb4.size) |>.mono HC3.out.size)
          by_cases hu : 4 < u
          · have M2 := Lib.hid (M2.out hu)
            have km5 := kma2 w5 (HSW.out.below b5)
            have hse2 : (bstr sh).extract 0 (sh.length - 1) = bstr ((hexs x).take (u - 1)) := by rw [HSL.out]; exact HSE.out
            rw [M2.out, ← hse2] at km5
            have hh6 : 5 ≤ sh.length := by omega
            have hh7 : sh.length ≤ 40 := by omega
            clear kma2 hh3 hse2
            go_upto_region 33 with (first
              | (go_at_call 24; (with_reducible refine km5.mono ?_); rintro e w6 ⟨rfl, hb6⟩)
              | (refine wpList_store_row rfl 23 (.tmp 16) (.tmp 144) rfl w6.heap.size (bvs zs20).toArray rfl rfl 23 (bvs zs20).toArray (heap_alloc_new _ _) (info23 zs20 zs20_len) rfl (one_bvs _) ?_))
            simp only [zlit]
            obtain ⟨r7, b7⟩ := new_set w6 23 (bvs zs20).toArray (bvs zs20).toArray
            obtain ⟨W7, hW7⟩ : ∃ W7, W7 = (w6.alloc (.cells (bvs zs20).toArray 23)).setRow w6.heap.size (bvs zs20).toArray := ⟨_, rfl⟩
            rw [← hW7] at b7 ⊢
            clear hW7 r7
            go_wp2
            go_roundw
            case rel => exact ⟨i + 1, by simp, by omega, HBW.out.trans ((b5.trans ((hb6.trans (b7.mono hb6.size)).mono b5.size)).mono HBW.out.size)⟩
            case measure => simp only [intOf]; omega
          · clear kma2
            go_wp2
            go_roundw
            case rel => exact ⟨i + 1, by simp, by omega, HBW.out.trans (b5.mono HBW.out.size)⟩
            case measure => simp only [intOf]; omega
        · obtain rfl : i = m := by omega
          go_wp2
          go_ret
          exact ⟨rfl, C8.out.trans (hbw.mono C8.out.size)⟩
theorem counts_all (l : List (List UInt8)) (h20 : All20 l) (hm : l.length ≤ maxLen) (A : Option Addr) (c : Nat) (h0 : A = none → c = 0) (w : World) (hA : Sl w A (idc l)) :
    Calls Try.prog 7 #[.slice A l.length c] w fun e w' => e = .returned (.bool true) ∧ Below w.heap.size w w' := by
  by_cases h : l.length ≤ 60
  · exact counts_any l h20 h A c h0 w hA
  · exact counts_big l (by omega) hm A c w
end Go.Proofs.Ytjiiploleinobaa
