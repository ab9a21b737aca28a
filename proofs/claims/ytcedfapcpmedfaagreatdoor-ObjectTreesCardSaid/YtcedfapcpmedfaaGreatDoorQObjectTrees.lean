/- ObjectTrees: any entries as a tree's bytes, which tell them again; any two in order. Conditions: what the library's tables hold; twenty bytes each. -/
import Derived.Test.YtcedfapcpmedfaaGreatDoorKk
import Derived.Test.YtcedfapcpmedfaaGreatDoorKi
import Derived.Test.YtcedfapcpmedfaaGreatDoorKh
import Derived.Test.YtcedfapcpmedfaaGreatDoorKj
namespace Go.Proofs.YtcedfapcpmedfaaGreatDoor
section
open Go.RowKit
set_option maxRecDepth 100000
set_option maxHeartbeats 4000000
set_option linter.unusedVariables false
theorem neqI_self (n : Int) (w : World) : (binOp .neq 3 (.int .i64 n) (.int .i64 n)).run Tryz.prog w = .ok (.bool false) w := by
  have h : (binOp .neq 3 (.int .i64 n) (.int .i64 n)).run Tryz.prog w = .ok (.bool (!(n == n))) w := by kernel_rfl
  rw [h]; simp
theorem run_neqI {o : Oper} {a : Act} {w : World} (x y : Operand) (ty : TypeId) (ho : o.op = .binOp .neq 3 x y ty) (n : Int) (hx : a.eval x = .int .i64 n) (hy : a.eval y = .int .i64 n) :
    (execOp (Act.eval a) o).run Tryz.prog w = .ok (.value (.bool false)) w := by
  have hg : (eqGuard .neq 3 x y (.int .i64 n) (.int .i64 n)).run Tryz.prog w = .ok () w := by kernel_rfl
  simp [execOp, ho, hx, hy, hg, neqI_self, Result.andThen]
theorem run_neqE {o : Oper} {a : Act} {w : World} (x y : Operand) (ty : TypeId) (ho : o.op = .binOp .neq 40 x y ty) (e : En) (h20 : e.id.length = 20) (hx : a.eval x = ev e) (hy : a.eval y = ev e) :
    (execOp (Act.eval a) o).run Tryz.prog w = .ok (.value (.bool false)) w := by
  have hg : (eqGuard .neq 40 x y (ev e) (ev e)).run Tryz.prog w = .ok () w := by kernel_rfl
  simp [execOp, ho, hx, hy, hg, entO_neq e h20, Result.andThen]
theorem trees_pass (l : List En) (A : Option Addr) (cap : Nat) (w : World) (hg : Gb w) (h : (40 < l.length ∧ l.length ≤ 512) ∨ 600 < l.length) (hm : l.length ≤ 9223372036854775807) :
    Calls Tryz.prog 8 #[.slice A l.length cap] w fun e w' => e = .returned (.bool true) ∧ Below w.heap.size w w' := by
  have kk := known_any w hg
  obtain ⟨n, hn⟩ : ∃ n, n = l.length := ⟨_, rfl⟩
  rw [← hn] at h hm ⊢
  clear hg hn
  have cs : (40 < n ∧ n ≤ 512) ∨ (40 < n ∧ ¬ n ≤ 512 ∧ 600 < n) := by omega
  clear h
  rcases cs with ⟨h1, h2⟩ | ⟨h1, h2, h3⟩
  all_goals
    go_enter Tryz.func8, Tryz.ntmps8
    go_wp2_with (go_at_call 10; (with_reducible refine kk.mono ?_); rintro e w1 ⟨rfl, hb1⟩)
    go_ret
    exact ⟨rfl, hb1⟩
theorem trees_law (l : List En) (ha : EAll l) (hn : l.length ≤ 40 ∨ (512 < l.length ∧ l.length ≤ 600)) (A : Option Addr) (cap : Nat) (w : World) (hg : Gb w) (hz : Gz w) (hA : Sl w A (ecs l)) :
    Calls Tryz.prog 8 #[.slice A l.length cap] w fun e w' => e = .returned (.bool true) ∧ Below w.heap.size w w' := by
  have kk := known_any w hg
  have ken := fun w' (h : Below w.heap.size w w') => entries_any l ha (by omega) A cap w' (hA.below h)
  have kec := fun (hs : ∀ e ∈ l, e.name.length ≤ 300) w' (h : Below w.heap.size w w') => encTr_any l ha (fun e he => by have := hs e he; omega) (by omega) A cap w' (hz.below h) (hA.below h)
  have ker := fun (hs : ∀ e ∈ l, e.name.length ≤ 300) B c w' (h : Sl w' B (ecs l)) => encTrR_any l ha (fun e he => by have := hs e he; omega) (by omega) B c w' h
  have hpl : Hid ((encTr l).2 = 0 → (encTr l).1 = treeB l ∧ (treeB l).length ≤ 16384 ∧ decTr (treeB l) = (l, 0)) := Lib.hid (fun h => by
    obtain ⟨_, _, _, h4, h5⟩ := encTr_ok h
    exact ⟨by rw [h5], h4, decTr_encTr ha h⟩)
  have kde := fun (h0 : (encTr l).2 = 0) B c w' (hl : (encTr l).1.length ≤ c) (hc : B = none → c = 0) (hgw : Below w.heap.size w w') (hs : Bs w' B (encTr l).1) => (show Calls Tryz.prog 34 #[.slice B (encTr l).1.length c] w' (OutN l 0 w') from by
    obtain ⟨e1, e2, e3⟩ := hpl.out h0
    rw [e1] at hl hs ⊢
    have := decTr_any (treeB l) e2 B c hl hc w' (hg.below hgw) (hz.below hgw) hs
    rwa [e3] at this)
  obtain ⟨n, hnn⟩ : ∃ n, n = l.length := ⟨_, rfl⟩
  obtain ⟨b, hb⟩ : ∃ b, b = (encTr l).1 := ⟨_, rfl⟩
  obtain ⟨f, hf⟩ : ∃ f, f = (encTr l).2 := ⟨_, rfl⟩
  rw [← hb, ← hf] at kec ker kde
  rw [← hnn] at hn ken kec ker ⊢
  obtain ⟨nb, hnb⟩ : ∃ nb, nb = b.length := ⟨_, rfl⟩
  unfold OutZ at kec
  unfold OutB at ker
  unfold OutN at kde
  rw [← hnn, ← hnb] at kde
  rw [← hnb] at kec ker
  have HA := Lib.hid hA; have HNN := Lib.hid hnn; have HAL := Lib.hid ha; have HNB := Lib.hid hnb
  have KEN := Lib.hid ken; have KEC := Lib.hid kec; have KER := Lib.hid ker; have KDE := Lib.hid kde
  clear hA hnn ha hnb ken kec ker kde hb hf hg hz hpl
  have cs : (¬ 40 < n ∧ ¬ 600 < n) ∨ (40 < n ∧ ¬ n ≤ 512 ∧ ¬ 600 < n) := by omega
  have hn6 : n ≤ 600 := by omega
  clear hn
  go_enter Tryz.func8, Tryz.ntmps8
  go_upto_region 3 with (go_at_call 10; (with_reducible refine kk.mono ?_); rintro e w1 ⟨rfl, hb1⟩)
  have B1 := Lib.hid hb1
  clear hb1 kk
  go_cut [27] (fun t27 wx => t27 = .bool false ∧ Hid (Below w.heap.size w wx))
  case first =>
    rcases cs with ⟨h1, h2⟩ | ⟨h1, h2, h3⟩
    · go_wp2
      go_meet
      case rel => exact ⟨by rw [decide_eq_false (by omega)], B1⟩
    · go_wp2
      go_meet
      case rel => exact ⟨by rw [decide_eq_false (by omega), decide_eq_false (by omega)]; rfl, B1⟩
  case rest =>
  obtain ⟨rfl, BC⟩ := hcut
  clear cs
  go_upto_block 0 with fail
  go_step
  go_loopw [3] (fun t3 wr => ∃ i : Nat, t3 = .int .i64 (i : Int) ∧ i ≤ n ∧ Hid (∀ j, j < i → (gtE l j).name.length ≤ 300) ∧ Hid (Below w.heap.size w wr)) (fun t3 _ => (n - intOf t3).toNat)
  case atStart => exact ⟨0, rfl, by omega, Lib.hid (fun j h => by omega), BC⟩
  case round =>
    obtain ⟨i, rfl, hi, HT, HBW⟩ := hrel
    by_cases hin : i < n
    · have hil : i < l.length := by rw [← HNN.out]; exact hin
      obtain ⟨ad, hA1, hse⟩ := Sl.ent HA.out HAL.out hil
      subst hA1
      have cn := en_name (hse.below HBW.out)
      obtain ⟨nm, hnm⟩ : ∃ nm, nm = (gtE l i).name := ⟨_, rfl⟩
      rw [← hnm] at cn
      have zn := bstr_size nm
      have LN := load_oneC (T := 9) (fun w => by kernel_rfl) cn
      have HNM := Lib.hid hnm
      clear hse cn hnm hil
      by_cases hbig : 300 < nm.length
      · go_wp2_with (refine wpList_loadG 9 (.tmp 37) rfl ((ad.add (i * 22)).add 1) rfl _ LN rfl ?_)
        go_ret
        exact ⟨rfl, HBW.out⟩
      · have HT2 : Hid (∀ j, j < i + 1 → (gtE l j).name.length ≤ 300) := Lib.hid (fun j h => by
          by_cases e : j = i
          · subst e; rw [← HNM.out]; omega
          · exact HT.out j (by omega))
        go_wp2_with (refine wpList_loadG 9 (.tmp 37) rfl ((ad.add (i * 22)).add 1) rfl _ LN rfl ?_)
        go_roundw
        case rel => exact ⟨i + 1, by simp, by omega, HT2, HBW⟩
        case measure => simp only [intOf]; omega
    · have hle : i = n := by omega
      have hs : ∀ e ∈ l, e.name.length ≤ 300 := fun e he => by
        obtain ⟨j, hj, rfl⟩ := List.getElem_of_mem he
        have := HT.out j (by have := HNN.out; omega)
        unfold gtE at this
        rwa [List.getD_eq_getElem?_getD, List.getElem?_eq_getElem hj] at this
      have HS := Lib.hid hs
      have kec := KEC.out hs
      have ker := KER.out hs
      have BB := HBW
      have KEC2 := Lib.hid kec; have KER2 := Lib.hid ker
      clear hs HT HBW BC B1 hle KEC KER kec ker
      go_upto_region 13 with (first
        | (go_at_call 38; (with_reducible refine (KEN.out _ BB.out).mono ?_); rintro z w2 ⟨⟨A2, c2, rfl, hs2⟩, hb2⟩
           have B2 := Lib.hid (BB.out.trans (hb2.mono BB.out.size)); have S2 := Lib.hid hs2; clear hs2 hb2)
        | (go_at_call 46; (with_reducible refine (KEC2.out _ B2.out).mono ?_); rintro z w3 ⟨⟨A3, c3, rfl, hc3, hz3, hs3⟩, hb3⟩
           have B3 := Lib.hid (B2.out.trans (hb3.mono B2.out.size)); have S23 := Lib.hid (S2.out.below hb3); have S3 := Lib.hid hs3; have C3 := Lib.hid hc3; have Z3 := Lib.hid hz3; clear hs3 hb3 hc3 hz3)
        | (go_at_call 47; (with_reducible refine (KER2.out _ _ _ S23.out).mono ?_); rintro z w4 ⟨⟨A4, c4, rfl, hc4, hs4⟩, hb4⟩
           have B4 := Lib.hid (B3.out.trans (hb4.mono B3.out.size)); have S24 := Lib.hid (S23.out.below hb4); have S34 := Lib.hid (S3.out.below hb4); have S4 := Lib.hid hs4; clear hs4 hb4 hc4))
      clear B2 B3 S2 S23 S3 KEN KEC2 KER2 BB
      have hcv1 := conv34 (c := c3) S34.out HNB.out
      have hcv2 := conv34 (c := c4) S4.out HNB.out
      go_upto_block 2 with fail
      go_step
      go_loopw [9] (fun t9 wr => ∃ i : Nat, t9 = .int .i64 (i : Int) ∧ 1 ≤ i ∧ i ≤ n + 1 ∧ Hid (Below w4.heap.size w4 wr)) (fun t9 _ => (n + 1 - intOf t9).toNat)
      case atStart => exact ⟨1, rfl, by omega, by omega, Lib.hid (Below.refl _ _)⟩
      case round =>
        obtain ⟨i, rfl, hi1, hi, HBI⟩ := hrel
        by_cases hin : i < n
        · obtain ⟨j, hj⟩ : ∃ j, i = j + 1 := ⟨i - 1, by omega⟩
          have hil : i < l.length := by rw [← HNN.out]; exact hin
          have hjl : j < l.length := by omega
          obtain ⟨ad, hA1, hse⟩ := Sl.ent (HA.out.below B4.out) HAL.out hil
          subst hA1
          obtain ⟨ad', e1, hsp⟩ := Sl.ent (HA.out.below B4.out) HAL.out hjl
          injection e1 with e1
          subst e1
          obtain ⟨ar, hA2, hre⟩ := Sl.ent S24.out HAL.out hil
          subst hA2
          obtain ⟨ar', e2, hrp⟩ := Sl.ent S24.out HAL.out hjl
          injection e2 with e2
          subst e2
          obtain ⟨e, hee⟩ : ∃ e, e = gtE l i := ⟨_, rfl⟩
          obtain ⟨p, hpp⟩ : ∃ p, p = gtE l j := ⟨_, rfl⟩
          have e20 : e.id.length = 20 := by rw [hee]; exact HAL.out _ (gtE_mem hil)
          have p20 : p.id.length = 20 := by rw [hpp]; exact HAL.out _ (gtE_mem hjl)
          have es : e.name.length ≤ 300 := by rw [hee]; exact HS.out _ (gtE_mem hil)
          have ps : p.name.length ≤ 300 := by rw [hpp]; exact HS.out _ (gtE_mem hjl)
          rw [← hee] at hse hre
          rw [← hpp] at hsp hrp
          have LE := Lib.hid (fun w' (h : Below w4.heap.size w4 w') => load_ent e20 (hse.below h))
          have LP := Lib.hid (fun w' (h : Below w4.heap.size w4 w') => load_ent p20 (hsp.below h))
          have RE := Lib.hid (fun w' (h : Below w4.heap.size w4 w') => load_entR e20 (hre.below h))
          have RP := Lib.hid (fun w' (h : Below w4.heap.size w4 w') => load_entR p20 (hrp.below h))
          have ko1 := fun w' => order_any p e p20 e20 (by omega) (by omega) w'
          have ko2 := fun w' => order_any e p e20 p20 (by omega) (by omega) w'
          have kor := fun w' => orderR_any p e p20 e20 (by omega) (by omega) w'
          unfold oI at kor
          rw [ordI_neg (keyI p.mode p.name) (keyI e.mode e.name)] at ko2
          have hbd := ordI_bd (keyI p.mode p.name) (keyI e.mode e.name)
          obtain ⟨o, ho⟩ : ∃ o, o = ordI (keyI p.mode p.name) (keyI e.mode e.name) := ⟨_, rfl⟩
          rw [← ho] at ko1 ko2 kor hbd
          have K1 := Lib.hid ko1; have K2 := Lib.hid ko2; have KR := Lib.hid kor
          have BW := Lib.hid (fun w' (h : Below wr.heap.size wr.drew w') => HBI.out.trans ((bel_undrew h).mono HBI.out.size))
          have zw : IntKind.i64.wrap ((i : Int) - 1) = (j : Int) := by
            rw [IntKind.wrap_i64]
            omega
          have zj : j < n := by omega
          have zo : IntKind.i64.wrap (0 - o) = -o := by
            rw [IntKind.wrap_i64]
            omega
          have zo2 : wrap64 (-o) = -o := by
            unfold wrap64
            omega
          clear hse hsp hre hrp e20 p20 es ps ko1 ko2 kor ho hee hpp hjl hil hj hcv1 hcv2 hbd
          go_upto_region 18 with fail
          refine wp_region_plan [(0, false), (1, false), (2, false), (3, false), (4, false), (5, false), (6, false), (7, false), (8, false), (10, false), (11, false), (12, false), (13, false), (14, false), (15, false), (16, false), (17, false), (18, false), (9, true), (19, true), (20, false), (21, false), (22, false), (23, false), (24, false), (25, false), (26, false), (27, false), (28, false), (29, false), (30, false), (32, false), (33, false), (34, false), (35, false), (36, false), (37, false), (38, false), (39, false), (40, false), (31, true), (41, true), (42, false), (43, false), (44, false)] (fun u v => Below u.heap.size u v) bel_refl bel_trans (by kernel_rfl) (by kernel_rfl) ?_
          iterate 18 (refine wpG_still _ rfl rfl ?_; first | (refine wpQuiet_load 40 (.tmp 72) rfl (ad.add (j * 22)) rfl (ev p) (fun w' h => LP.out w' (BW.out w' h)) _ rfl rfl ?_; simp only [List.set_cons_succ, List.set_cons_zero]) | (refine wpQuiet_load 40 (.tmp 76) rfl (ad.add (i * 22)) rfl (ev e) (fun w' h => LE.out w' (BW.out w' h)) _ rfl rfl ?_; simp only [List.set_cons_succ, List.set_cons_zero]) | (refine wpQuiet_load 80 (.tmp 82) rfl (ar.add (j * 22)) rfl (ev p) (fun w' h => RP.out w' (BW.out w' h)) _ rfl rfl ?_; simp only [List.set_cons_succ, List.set_cons_zero]) | (refine wpQuiet_load 80 (.tmp 86) rfl (ar.add (i * 22)) rfl (ev e) (fun w' h => RE.out w' (BW.out w' h)) _ rfl rfl ?_; simp only [List.set_cons_succ, List.set_cons_zero]) | (refine wpQuiet_load 40 (.tmp 93) rfl (ad.add (i * 22)) rfl (ev e) (fun w' h => LE.out w' (BW.out w' h)) _ rfl rfl ?_; simp only [List.set_cons_succ, List.set_cons_zero]) | (refine wpQuiet_load 40 (.tmp 98) rfl (ad.add (j * 22)) rfl (ev p) (fun w' h => LP.out w' (BW.out w' h)) _ rfl rfl ?_; simp only [List.set_cons_succ, List.set_cons_zero]) | (refine wpQuiet_load 40 (.tmp 104) rfl (ad.add (j * 22)) rfl (ev p) (fun w' h => LP.out w' (BW.out w' h)) _ rfl rfl ?_; simp only [List.set_cons_succ, List.set_cons_zero]) | (refine wpQuiet_load 40 (.tmp 108) rfl (ad.add (i * 22)) rfl (ev e) (fun w' h => LE.out w' (BW.out w' h)) _ rfl rfl ?_; simp only [List.set_cons_succ, List.set_cons_zero]) | (go_big_quiet_step ((intro hb; rfl))); refine wpQuiet_nil ?_)
          refine wpG_call _ rfl rfl 22 _ (fun w => rfl) ?_
          refine calls_as (args' := #[ev p, ev e]) (by simp [Act.eval]) ?_
          refine (K1.out _).mono ?_
          rintro z w5 ⟨rfl, hb5⟩
          refine ⟨_, rfl, hb5, ?_⟩
          simp only [Act.put, List.setIfInBounds_toArray, List.set_cons_succ, List.set_cons_zero]
          refine wpG_call _ rfl rfl 48 _ (fun w => rfl) ?_
          refine calls_as (args' := #[ev p, ev e]) (by simp [Act.eval]) ?_
          refine (KR.out _).mono ?_
          rintro z w6 ⟨rfl, hb6⟩
          refine ⟨_, rfl, hb6, ?_⟩
          simp only [Act.put, List.setIfInBounds_toArray, List.set_cons_succ, List.set_cons_zero]
          have b6 := Lib.hid (hb5.trans (hb6.mono hb5.size))
          clear hb5 hb6
          (refine wpG_still _ rfl rfl ?_; refine wpQuiet_pureC 89 rfl rfl (.bool false) (fun w _ => run_neqI (.tmp 78) (.tmp 88) _ rfl o rfl rfl) ?_; simp only [List.set_cons_succ, List.set_cons_zero]; refine wpQuiet_nil ?_)
          have BW2 := Lib.hid (fun w' (h : Below w6.heap.size w6 w') => BW.out w' (b6.out.trans (h.mono b6.out.size)))
          iterate 19 (refine wpG_still _ rfl rfl ?_; first | (refine wpQuiet_load 40 (.tmp 72) rfl (ad.add (j * 22)) rfl (ev p) (fun w' h => LP.out w' (BW2.out w' h)) _ rfl rfl ?_; simp only [List.set_cons_succ, List.set_cons_zero]) | (refine wpQuiet_load 40 (.tmp 76) rfl (ad.add (i * 22)) rfl (ev e) (fun w' h => LE.out w' (BW2.out w' h)) _ rfl rfl ?_; simp only [List.set_cons_succ, List.set_cons_zero]) | (refine wpQuiet_load 80 (.tmp 82) rfl (ar.add (j * 22)) rfl (ev p) (fun w' h => RP.out w' (BW2.out w' h)) _ rfl rfl ?_; simp only [List.set_cons_succ, List.set_cons_zero]) | (refine wpQuiet_load 80 (.tmp 86) rfl (ar.add (i * 22)) rfl (ev e) (fun w' h => RE.out w' (BW2.out w' h)) _ rfl rfl ?_; simp only [List.set_cons_succ, List.set_cons_zero]) | (refine wpQuiet_load 40 (.tmp 93) rfl (ad.add (i * 22)) rfl (ev e) (fun w' h => LE.out w' (BW2.out w' h)) _ rfl rfl ?_; simp only [List.set_cons_succ, List.set_cons_zero]) | (refine wpQuiet_load 40 (.tmp 98) rfl (ad.add (j * 22)) rfl (ev p) (fun w' h => LP.out w' (BW2.out w' h)) _ rfl rfl ?_; simp only [List.set_cons_succ, List.set_cons_zero]) | (refine wpQuiet_load 40 (.tmp 104) rfl (ad.add (j * 22)) rfl (ev p) (fun w' h => LP.out w' (BW2.out w' h)) _ rfl rfl ?_; simp only [List.set_cons_succ, List.set_cons_zero]) | (refine wpQuiet_load 40 (.tmp 108) rfl (ad.add (i * 22)) rfl (ev e) (fun w' h => LE.out w' (BW2.out w' h)) _ rfl rfl ?_; simp only [List.set_cons_succ, List.set_cons_zero]) | (go_big_quiet_step ((intro hb; rfl))); refine wpQuiet_nil ?_)
          refine wpG_call _ rfl rfl 22 _ (fun w => rfl) ?_
          refine calls_as (args' := #[ev e, ev p]) (by simp [Act.eval]) ?_
          refine (K2.out _).mono ?_
          rintro z w7 ⟨rfl, hb7⟩
          refine ⟨_, rfl, hb7, ?_⟩
          simp only [Act.put, List.setIfInBounds_toArray, List.set_cons_succ, List.set_cons_zero]
          refine wpG_call _ rfl rfl 22 _ (fun w => rfl) ?_
          refine calls_as (args' := #[ev p, ev e]) (by simp [Act.eval]) ?_
          refine (K1.out _).mono ?_
          rintro z w8 ⟨rfl, hb8⟩
          refine ⟨_, rfl, hb8, ?_⟩
          simp only [Act.put, List.setIfInBounds_toArray, List.set_cons_succ, List.set_cons_zero]
          have b8 := Lib.hid (b6.out.trans ((hb7.trans (hb8.mono hb7.size)).mono b6.out.size))
          clear hb7 hb8
          iterate 1 (refine wpG_still _ rfl rfl ?_; go_big_quiet_step ((intro hb; rfl)); refine wpQuiet_nil ?_)
          (refine wpG_still _ rfl rfl ?_; refine wpQuiet_pureC 112 rfl rfl (.bool false) (fun w _ => run_neqI (.tmp 100) (.tmp 111) _ rfl (-o) rfl (congrArg (Value.int .i64) zo2)) ?_; simp only [List.set_cons_succ, List.set_cons_zero]; refine wpQuiet_nil ?_)
          iterate 1 (refine wpG_still _ rfl rfl ?_; go_big_quiet_step ((intro hb; rfl)); refine wpQuiet_nil ?_)
          refine wpG_nil ?_
          go_wp2
          go_roundw
          case rel => exact ⟨i + 1, by simp, by omega, by omega, Lib.hid (BW.out _ b8.out)⟩
          case measure => simp only [intOf]; omega
        · clear hcv1 hcv2
          by_cases hf0 : f = 0
          · have kde := KDE.out hf0
            have KD := Lib.hid kde
            clear KDE kde
            subst hf0
            have BI := Lib.hid (B4.out.trans (HBI.out.mono B4.out.size))
            have S3I := Lib.hid (S34.out.below HBI.out)
            go_upto_block 4 with (go_at_call 34; (with_reducible refine (KD.out _ _ _ C3.out Z3.out BI.out S3I.out).mono ?_); rintro z w9 ⟨⟨A9, c9, rfl, hc9, hs9⟩, hb9⟩
                                  have B9 := Lib.hid (BI.out.trans (hb9.mono BI.out.size)); have S9 := Lib.hid hs9; clear hs9 hb9 hc9)
            go_step
            go_loopw [12] (fun t12 wz => ∃ k : Nat, t12 = .int .i64 (k : Int) ∧ k ≤ n ∧ Hid (Below w9.heap.size w9 wz)) (fun t12 _ => (n - intOf t12).toNat)
            case atStart => exact ⟨0, rfl, by omega, Lib.hid (Below.refl _ _)⟩
            case round =>
              obtain ⟨k, rfl, hk, HBK⟩ := hrel
              by_cases hkn : k < n
              · have hkl : k < l.length := by rw [← HNN.out]; exact hkn
                obtain ⟨ad, hA1, hse⟩ := Sl.ent (HA.out.below B9.out) HAL.out hkl
                subst hA1
                obtain ⟨ar, hA2, hre⟩ := Sl.ent S9.out HAL.out hkl
                subst hA2
                obtain ⟨e, hee⟩ : ∃ e, e = gtE l k := ⟨_, rfl⟩
                have e20 : e.id.length = 20 := by rw [hee]; exact HAL.out _ (gtE_mem hkl)
                rw [← hee] at hse hre
                have BW := Lib.hid (fun w' (h : Below wr.heap.size wr.drew w') => HBK.out.trans ((bel_undrew h).mono HBK.out.size))
                have LE := Lib.hid (fun w' (h : Below w9.heap.size w9 w') => load_ent e20 (hse.below h))
                have RE := Lib.hid (fun w' (h : Below w9.heap.size w9 w') => load_ent e20 (hre.below h))
                have E20 := Lib.hid e20
                clear hse hre e20 hee hkl
                go_upto_region 28 with fail
                refine wp_region_plan [(0, false), (1, false), (2, false), (3, false), (4, false), (5, false), (6, false), (7, false), (8, false)] (fun u v => Below u.heap.size u v) bel_refl bel_trans (by kernel_rfl) (by kernel_rfl) ?_
                iterate 8 (refine wpG_still _ rfl rfl ?_; first
                  | (refine wpQuiet_load 40 (.tmp 138) rfl (ar.add (k * 22)) rfl (ev e) (fun w' h => RE.out w' (BW.out w' h)) _ rfl rfl ?_; simp only [List.set_cons_succ, List.set_cons_zero])
                  | (refine wpQuiet_load 40 (.tmp 142) rfl (ad.add (k * 22)) rfl (ev e) (fun w' h => LE.out w' (BW.out w' h)) _ rfl rfl ?_; simp only [List.set_cons_succ, List.set_cons_zero])
                  | (go_big_quiet_step ((intro hb; rfl))); refine wpQuiet_nil ?_)
                (refine wpG_still _ rfl rfl ?_; refine wpQuiet_pureC 144 rfl rfl (.bool false) (fun w _ => run_neqE (.tmp 139) (.tmp 143) _ rfl e E20.out rfl rfl) ?_; simp only [List.set_cons_succ, List.set_cons_zero]; refine wpQuiet_nil ?_)
                refine wpG_nil ?_
                go_wp2
                go_roundw
                case rel => exact ⟨k + 1, by simp, by omega, Lib.hid HBK.out.drew⟩
                case measure => simp only [intOf]; omega
              · go_wp2
                go_ret
                exact ⟨rfl, B9.out.trans (HBK.out.mono B9.out.size)⟩
          · have zf : ((f : Int) == 0) = false := by rw [beq_eq_false_iff_ne]; omega
            have zf2 : decide ((f : Int) = 0) = false := decide_eq_false (by omega)
            have zf3 : ((f : Int) != 0) = true := by rw [bne_iff_ne]; omega
            go_wp2
            go_ret
            exact ⟨rfl, B4.out.trans (HBI.out.mono B4.out.size)⟩
theorem trees_all (l : List En) (ha : EAll l) (A : Option Addr) (cap : Nat) (w : World) (hg : Gb w) (hz : Gz w) (hm : l.length ≤ maxLen) (hA : Sl w A (ecs l)) :
    Calls Tryz.prog 8 #[.slice A l.length cap] w fun e w' => e = .returned (.bool true) ∧ Below w.heap.size w w' := by
  by_cases h1 : (40 < l.length ∧ l.length ≤ 512) ∨ 600 < l.length
  · exact trees_pass l A cap w hg h1 (by unfold maxLen at hm; omega)
  · exact trees_law l ha (by omega) A cap w hg hz hA
end
end Go.Proofs.YtcedfapcpmedfaaGreatDoor
