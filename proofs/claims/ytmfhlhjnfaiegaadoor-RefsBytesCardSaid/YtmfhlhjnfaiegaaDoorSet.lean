/- refs.Set: a row with one ref set, where the name stands already or goes to the end. Conditions: twenty bytes each, at most 255 rows, risen by name. -/
import Derived.Test.YtmfhlhjnfaiegaaDoorDel
import Derived.Deep.MidRow
import Derived.Great.BuildSlice
namespace Go.Proofs.YtmfhlhjnfaiegaaDoor
open Go.RowKit
set_option maxRecDepth 100000
set_option maxHeartbeats 1000000
set_option linter.unusedVariables false
/-- cells written one behind the other -/
def setsL (xs : List Value) (j : Nat) : List Value → List Value
  | [] => xs
  | v :: r => setsL (xs.set j v) (j + 1) r
theorem setsL_mid (q : List Value) : ∀ (new old p : List Value), old.length = new.length → setsL (p ++ old ++ q) p.length new = p ++ new ++ q
  | [], [], p, _ => by simp [setsL]
  | [], _ :: _, p, h => by simp at h
  | _ :: _, [], p, h => by simp at h
  | v :: r, o :: os, p, h => by
    have ih := setsL_mid q r os (p ++ [v]) (by simpa using h)
    rw [setsL]
    have e : (p ++ (o :: os) ++ q).set p.length v = (p ++ [v]) ++ os ++ q := by
      rw [List.append_assoc, List.set_append_right _ _ (Nat.le_refl _), Nat.sub_self]; simp
    rw [e, show p.length + 1 = (p ++ [v]).length by simp, ih]; simp
theorem Win.sets {B e size n g off c : Nat} : ∀ (vs : List Value) (j : Nat) (w : World) (xs : List Value), Win w B e size (.slice (some ⟨g, off, none⟩) n c) n xs → Win (w.setCells g (off + j) vs) B e size (.slice (some ⟨g, off, none⟩) n c) n (setsL xs j vs)
  | [], _, _, _, h => h
  | v :: r, j, w, xs, h => by
    rw [World.setCells, setsL, Nat.add_assoc]
    exact Win.sets r (j + 1) _ _ (Win.set h j v)
theorem rfc_mid (a b : List Rf) (x : Rf) (id : List UInt8) (h20 : Rf20 (a ++ x :: b)) (hid : id.length = 20) : setsL (rfc (a ++ x :: b)) (a.length * 21 + 1) (bvs id) = rfc (a ++ (x.1, id) :: b) := by
  have hx : x.2.length = 20 := h20 _ (by simp)
  have hl : (rfc a).length = a.length * 21 := rfc_len (fun y hy => h20 y (by simp [hy]))
  have e2 : rfc (a ++ x :: b) = (rfc a ++ [Value.string (bstr x.1)]) ++ bvs x.2 ++ rfc b := by simp [rfc, rcell]
  have e3 : rfc (a ++ (x.1, id) :: b) = (rfc a ++ [Value.string (bstr x.1)]) ++ bvs id ++ rfc b := by simp [rfc, rcell]
  have e4 : a.length * 21 + 1 = (rfc a ++ [Value.string (bstr x.1)]).length := by rw [List.length_append, hl]; rfl
  rw [e2, e3, e4]
  exact setsL_mid _ _ _ _ (by rw [bvs_length, bvs_length, hx, hid])
theorem rfc_set (l : List Rf) (i : Nat) (hi : i < l.length) (h20 : Rf20 l) (id : List UInt8) (hid : id.length = 20) : setsL (rfc l) (i * 21 + 1) (bvs id) = rfc (l.set i ((gtR l i).1, id)) := by
  have hg : gtR l i = l[i] := by unfold gtR; rw [List.getD_eq_getElem?_getD, List.getElem?_eq_getElem hi]; rfl
  have e1 : l = l.take i ++ l[i] :: l.drop (i + 1) := by rw [List.getElem_cons_drop, List.take_append_drop]
  have hl : (l.take i).length = i := by rw [List.length_take, Nat.min_eq_left (by omega)]
  have := rfc_mid (l.take i) (l.drop (i + 1)) l[i] id (by rw [← e1]; exact h20) hid
  rw [hl, ← e1] at this
  rw [this, hg, List.set_eq_take_append_cons_drop, if_pos hi]
theorem built_ref20 (s : List UInt8) (a0 a1 a2 a3 a4 a5 a6 a7 a8 a9 b0 b1 b2 b3 b4 b5 b6 b7 b8 b9 : UInt8) : Tryd.prog.built 47 [(0, .string (bstr s)), (1, idv [a0, a1, a2, a3, a4, a5, a6, a7, a8, a9, b0, b1, b2, b3, b4, b5, b6, b7, b8, b9])] = some (rcell (s, [a0, a1, a2, a3, a4, a5, a6, a7, a8, a9, b0, b1, b2, b3, b4, b5, b6, b7, b8, b9])).toArray := by kernel_rfl
theorem built_ref (s id : List UInt8) (h : id.length = 20) : Tryd.prog.built 47 [(0, .string (bstr s)), (1, idv id)] = some (rcell (s, id)).toArray :=
  match id, h with
  | [a0, a1, a2, a3, a4, a5, a6, a7, a8, a9, b0, b1, b2, b3, b4, b5, b6, b7, b8, b9], _ => built_ref20 s a0 a1 a2 a3 a4 a5 a6 a7 a8 a9 b0 b1 b2 b3 b4 b5 b6 b7 b8 b9
theorem fill_ref20 (s : List UInt8) (a0 a1 a2 a3 a4 a5 a6 a7 a8 a9 b0 b1 b2 b3 b4 b5 b6 b7 b8 b9 : UInt8) : Instr.fill (fun i => some (i * 21, 21)) ((Array.range (1 * 21)).map ((rfv ([], zs20)).cells[· % (rfv ([], zs20)).cells.size]!)) [(0, rfv (s, [a0, a1, a2, a3, a4, a5, a6, a7, a8, a9, b0, b1, b2, b3, b4, b5, b6, b7, b8, b9]))] = some (rcell (s, [a0, a1, a2, a3, a4, a5, a6, a7, a8, a9, b0, b1, b2, b3, b4, b5, b6, b7, b8, b9])).toArray := by kernel_rfl
theorem fill_ref (s id : List UInt8) (h : id.length = 20) : Instr.fill (fun i => some (i * 21, 21)) ((Array.range (1 * 21)).map ((rfv ([], zs20)).cells[· % (rfv ([], zs20)).cells.size]!)) [(0, rfv (s, id))] = some (rcell (s, id)).toArray :=
  match id, h with
  | [a0, a1, a2, a3, a4, a5, a6, a7, a8, a9, b0, b1, b2, b3, b4, b5, b6, b7, b8, b9], _ => fill_ref20 s a0 a1 a2 a3 a4 a5 a6 a7 a8 a9 b0 b1 b2 b3 b4 b5 b6 b7 b8 b9
theorem wpList_buildR {ops : Array Oper} {rest : List Oper} {o : Oper} {a : Act} {w : World} {Q : Exit → Act → World → Prop} (hg : o.guard = none) (x y : Operand) (ho : o.op = .build 47 #[(0, x), (1, y)])
    (s id : List UInt8) (hid : id.length = 20) (hx : a.eval x = .string (bstr s)) (hy : a.eval y = idv id) (h : wpList Tryd.prog ops Q rest (a.put o.dst (rfv (s, id))) w) : wpList Tryd.prog ops Q (o :: rest) a w := by
  refine wpList_plain hg fun K hK => ?_
  have hr := run_build (P := Tryd.prog) w 47 #[(0, .string (bstr s)), (1, idv id)] _ (built_ref s id hid)
  unfold Oper.wp
  simp [execOp, ho, hx, hy, hr, Result.andThen]
  exact hK _ _ h
theorem wpList_oneR {ops : Array Oper} {rest : List Oper} {o : Oper} {a : Act} {w : World} {Q : Exit → Act → World → Prop} (hg : o.guard = none) (x : Operand) (ho : o.op = .buildSlice 22 1 #[(0, x)])
    (s id : List UInt8) (hid : id.length = 20) (hx : a.eval x = rfv (s, id)) (h : wpList Tryd.prog ops Q rest (a.put o.dst (.slice (some ⟨w.heap.size, 0, none⟩) 1 1)) (w.alloc (.cells (rcell (s, id)).toArray 47))) : wpList Tryd.prog ops Q (o :: rest) a w := by
  obtain ⟨i, hi, hz, hsize, hby⟩ := info_parts infoRef
  refine wpList_plain hg fun K hK => ?_
  have hr := run_buildSlice (P := Tryd.prog) w 22 47 1 #[(0, rfv (s, id))] (rcell (s, id)).toArray i _ Tryd.underlying22 hi hz (by rw [hsize]; decide) (by rw [hsize]; decide) (by rw [hsize]; exact fill_ref s id hid)
  unfold Oper.wp
  simp [execOp, ho, hx, hr, Result.andThen]
  exact hK _ _ h
def OutS (o : List Rf × Nat) (w : World) (e : Ending) (w' : World) : Prop := (∃ A c, e = .returned (.tuple #[.slice A o.1.length c, .int .i64 (o.2 : Int)]) ∧ o.1.length ≤ c ∧ Sl w' A (rfc o.1)) ∧ Below w.heap.size w w'
theorem set_any (l : List Rf) (h20 : Rf20 l) (hn : l.length ≤ 255) (ris : RisR l) (s id : List UInt8) (hs : s.length ≤ 1073741824) (hid : id.length = 20) (hend : isN l s = false → pkN l s = l.length) (A : Option Addr) (c : Nat) (w : World) (hg : GOk w) (hA : Sl w A (rfc l)) :
    Calls Tryd.prog 15 #[.slice A l.length c, .string (bstr s), idv id] w (OutS (setI l s id) w) := by
  obtain ⟨W0, hW0⟩ : ∃ W0, W0 = w.alloc (.cells (bvs id).toArray 41) := ⟨_, rfl⟩
  have hb0 : Below w.heap.size w W0 := by rw [hW0]; exact (Below.refl _ _).alloc (Nat.le_refl _) _
  have r0 : Sl W0 (some ⟨w.heap.size, 0, none⟩) (bvs id) := by rw [hW0]; exact Sl.of_block (heap_alloc_new _ _) (fun j v hj => by simpa using hj)
  have ssz : (bstr s).size = s.length := by show s.toArray.size = _; simp
  have sdl : (bstr s).data.toList = s := by simp
  have kn := name_any (bstr s) (by rw [ssz]; exact hs) W0 (hg.below hb0)
  rw [sdl] at kn
  have kc : ∀ W, Below w.heap.size w W → _ := fun W h => cloneR A c l W (by omega) h20 (hA.below h)
  have kf : ∀ W, Below w.heap.size w W → _ := fun W h => find_any l h20 (by omega) ris s A c W (hA.below h)
  have HW0 := Lib.hid hW0; have HB0 := Lib.hid hb0; have R0 := Lib.hid r0; have KC := Lib.hid kc; have KF := Lib.hid kf; have H20 := Lib.hid h20; have HEND := Lib.hid hend; have HID := Lib.hid hid
  have hple := pkN_le l s
  have HSI : Hid (setI l s id = setI l s id) := Lib.hid rfl
  obtain ⟨n, hnn⟩ : ∃ n, n = l.length := ⟨_, rfl⟩
  have HN := Lib.hid hnn
  clear hW0 hb0 r0 hg hA ssz sdl kc kf h20 hend hs ris hid HSI
  cases hq : nameB s with
  | false =>
    rw [hq] at kn
    have HE := Lib.hid (show setI l s id = ([], 1) by rw [setI, hq]; rfl)
    rw [← hnn]
    clear hq hnn
    go_enter Tryd.func15, Tryd.ntmps15
    go_upto_region 1 with fail
    rw [← HW0.out]
    go_wp2_with (go_at_call 13; (with_reducible refine kn.mono ?_); rintro e w1 ⟨rfl, hb1⟩)
    go_ret2
    exact ⟨⟨none, 0, by rw [HE.out]; rfl, by rw [HE.out]; simp, by rw [HE.out]; exact Sl.nil _ _⟩, HB0.out.trans (hb1.mono HB0.out.size)⟩
  | true =>
    rw [hq] at kn
    cases hi : isN l s with
    | true =>
      obtain ⟨p, hp⟩ : ∃ p, p = pkN l s := ⟨_, rfl⟩
      have hi2 : pkN l s < l.length ∧ gtN l (pkN l s) = s := by
        have := hi
        unfold isN at this
        exact of_decide_eq_true this
      rw [← hp] at hi2
      have hpn : p < n := by rw [hnn]; exact hi2.1
      have hgs : ((gtR l p).1, id) = (s, id) := by rw [show (gtR l p).1 = s from hi2.2]
      have HSET := Lib.hid (show setsL (rfc l) (p * 21 + 1) (bvs id) = rfc (l.set p (s, id)) by rw [rfc_set l p hi2.1 H20.out id HID.out, hgs])
      have HE := Lib.hid (show setI l s id = (l.set p (s, id), 0) by rw [setI, hq, hi, if_neg (by decide), if_pos rfl, hp])
      have HI := Lib.hid hi
      have HP := Lib.hid hp.symm
      have hone : (bvs id).toArray.all (·.oneCell') = true := by
        rw [Array.all_eq_true]
        intro k hk
        exact bvs_one id _ (by simp)
      have hinf : (Tryd.prog.info? 41).map (·.size) = some (bvs id).toArray.size := by
        rw [show (bvs id).toArray.size = 20 by simp [HID.out]]; kernel_rfl
      have HONE := Lib.hid hone; have HINF := Lib.hid hinf
      rw [← hnn]
      clear hq hnn hi hple hi2 hgs hp hone hinf
      go_enter Tryd.func15, Tryd.ntmps15
      go_upto_region 1 with fail
      rw [← HW0.out]
      go_wp2_with (first
        | (go_at_call 13; (with_reducible refine kn.mono ?_); rintro e w1 ⟨rfl, hb1⟩
           have b1 := HB0.out.trans (hb1.mono HB0.out.size)
           have k2 := KC.out _ b1
           rw [← HN.out] at k2)
        | (go_at_call 30; (with_reducible refine k2.mono ?_); rintro e w2 ⟨v2, rfl, hw2, hb2⟩
           obtain ⟨g, off, c2, hv2, hBg, hgl, hc2, _⟩ := Win.form hw2 (by rw [← HN.out]; omega)
           rw [← HN.out] at hv2 hc2
           subst hv2
           unfold WinR at hw2
           rw [← HN.out] at hw2
           have b2 := b1.trans (hb2.mono b1.size)
           have z2 := hb1.trans (hb2.mono hb1.size)
           have k3 := KF.out _ b2
           rw [← HN.out, HI.out, HP.out] at k3)
        | (go_at_call 31; (with_reducible refine k3.mono ?_); rintro e w3 ⟨rfl, hb3⟩
           have b3 := b2.trans (hb3.mono b2.size)
           have z3 := z2.trans (hb3.mono z2.size)
           have hw3 := Win.below hw2 hb3
           have l3 := load_idT 41 (fun w => by kernel_rfl) (fun w => by kernel_rfl) id HID.out _ _ (R0.out.below z3))
        | (refine wpList_loadG 41 (.tmp 5) rfl ⟨w.heap.size, 0, none⟩ rfl (idv id) l3 rfl ?_)
        | (refine wpList_store_mid rfl 41 (.tmp 35) (.tmp 33) rfl g (off + p * 21 + 1) (bvs id).toArray rfl rfl (fun j hj => by
             have hj' : j < 20 := by have := HID.out; simp at hj; omega
             refine ⟨?_, Win.free hw3 _⟩
             have := Win.cellAt hw3 (p * 21 + 1 + j) (by omega)
             rw [show off + p * 21 + 1 + j = off + (p * 21 + 1 + j) by omega, this, List.getElem?_eq_getElem (by rw [hw3.1]; omega)]; rfl) HINF.out HONE.out ?_
           have hw4 : WinR (w3.setCells g (off + p * 21 + 1) (bvs id).toArray.toList) w1.heap.size (.slice (some ⟨g, off, none⟩) n c2) (l.set p (s, id)) := by
             have := Win.sets (bvs id) (p * 21 + 1) w3 _ hw3
             rw [HSET.out, ← Nat.add_assoc] at this
             unfold WinR
             rw [List.length_set, ← HN.out]
             simpa using this
           have b4 : Below w.heap.size w (w3.setCells g (off + p * 21 + 1) (bvs id).toArray.toList) := b3.trans ((kp_setCells g _ _ w3).toBelow b3.size (fun k hk e => by have := b1.size; omega)))
        | (go_at_call 27; (with_reducible refine (clipR (some ⟨g, off, none⟩) n c2 hc2 _).mono ?_); rintro e w6 ⟨rfl, rfl⟩))
      unfold WinR at hw4
      rw [List.length_set, ← HN.out] at hw4
      go_ret2
      exact ⟨⟨some ⟨g, off, none⟩, n, by rw [HE.out, List.length_set, ← HN.out]; rfl, by rw [HE.out, List.length_set, ← HN.out]; exact Nat.le_refl _, by rw [HE.out]; exact Win.at_ hw4⟩, b4⟩
    | false =>
      by_cases h64 : 64 ≤ n
      · have HE := Lib.hid (show setI l s id = ([], 5) by rw [setI, hq, hi, if_neg (by decide), if_neg (by decide), if_pos (by rw [← hnn]; exact h64)])
        have HI := Lib.hid hi
        rw [← hnn]
        have hd : decide ((64 : Int) ≤ (n : Int)) = true := decide_eq_true (by omega)
        clear hq hnn hi
        go_enter Tryd.func15, Tryd.ntmps15
        go_upto_region 1 with fail
        rw [← HW0.out]
        go_wp2_with (first
          | (go_at_call 13; (with_reducible refine kn.mono ?_); rintro e w1 ⟨rfl, hb1⟩
             have b1 := HB0.out.trans (hb1.mono HB0.out.size)
             have k2 := KC.out _ b1
             rw [← HN.out] at k2)
          | (go_at_call 30; (with_reducible refine k2.mono ?_); rintro e w2 ⟨v2, rfl, hw2, hb2⟩
             have b2 := b1.trans (hb2.mono b1.size)
             have k3 := KF.out _ b2
             rw [← HN.out, HI.out] at k3)
          | (go_at_call 31; (with_reducible refine k3.mono ?_); rintro e w3 ⟨rfl, hb3⟩))
        go_ret2
        exact ⟨⟨none, 0, by rw [HE.out]; rfl, by rw [HE.out]; simp, by rw [HE.out]; exact Sl.nil _ _⟩, b2.trans (hb3.mono b2.size)⟩
      · have hend := HEND.out hi
        have HE := Lib.hid (show setI l s id = (l ++ [(s, id)], 0) by
          rw [setI, hq, hi, if_neg (by decide), if_neg (by decide), if_neg (by rw [← hnn]; exact h64), hend]; simp)
        have HI := Lib.hid hi
        have HP := Lib.hid (show pkN l s = n by rw [hend, hnn])
        rw [← hnn]
        have hd : decide ((64 : Int) ≤ (n : Int)) = false := decide_eq_false (by omega)
        clear hq hnn hi hend hple
        go_enter Tryd.func15, Tryd.ntmps15
        go_upto_region 1 with fail
        rw [← HW0.out]
        go_wp2_with (first
          | (go_at_call 13; (with_reducible refine kn.mono ?_); rintro e w1 ⟨rfl, hb1⟩
             have b1 := HB0.out.trans (hb1.mono HB0.out.size)
             have k2 := KC.out _ b1
             rw [← HN.out] at k2)
          | (go_at_call 30; (with_reducible refine k2.mono ?_); rintro e w2 ⟨v2, rfl, hw2, hb2⟩
             obtain ⟨A2, c2, hv2, hc2, _, _⟩ := Win.reads hw2
             rw [← HN.out] at hv2
             subst hv2
             have b2 := b1.trans (hb2.mono b1.size)
             have z2 := hb1.trans (hb2.mono hb1.size)
             have k3 := KF.out _ b2
             rw [← HN.out, HI.out, HP.out] at k3)
          | (go_at_call 31; (with_reducible refine k3.mono ?_); rintro e w3 ⟨rfl, hb3⟩
             have b3 := b2.trans (hb3.mono b2.size)
             have z3 := z2.trans (hb3.mono z2.size)
             have hw3 := Win.below hw2 hb3
             have l3 := load_idT 41 (fun w => by kernel_rfl) (fun w => by kernel_rfl) id HID.out _ _ (R0.out.below z3))
          | (refine wpList_loadG 41 (.tmp 5) rfl ⟨w.heap.size, 0, none⟩ rfl (idv id) l3 rfl ?_)
          | (refine wpList_buildR rfl (.tmp 24) (.tmp 25) rfl s id HID.out rfl rfl ?_)
          | (refine wpList_oneR rfl (.tmp 26) rfl s id HID.out rfl ?_)
          | (go_at_call 32
             have hw4 := Win.below hw3 ((Below.refl _ _).alloc (Nat.le_refl _) (.cells (rcell (s, id)).toArray 47))
             have b4 : Below w.heap.size w (w3.alloc (.cells (rcell (s, id)).toArray 47)) := b3.alloc b3.size _
             have hA4 : Sl (w3.alloc (.cells (rcell (s, id)).toArray 47)) (some ⟨w3.heap.size, 0, none⟩) (rcell (s, id)) := Sl.of_block (heap_alloc_new _ _) (fun j v hj => by simpa using hj)
             have ki := insR w1.heap.size A2 c2 l (s, id) _ 1 _ (by rw [← HN.out]; omega) HID.out (by rw [← HN.out]; exact hw4) hc2 hA4 (Nat.le_trans (hb2.trans (hb3.mono hb2.size)).size (by simp))
             rw [← HN.out] at ki
             (with_reducible refine ki.mono ?_)
             rintro e w5 ⟨v5, rfl, hw5, hb5⟩
             have b5 := b4.trans (hb5.mono b1.size)
             obtain ⟨A5, c5, hv5, hc5, _, hs5⟩ := Win.reads hw5
             obtain ⟨m, hm⟩ : ∃ m, m = (l ++ [(s, id)]).length := ⟨_, rfl⟩
             rw [← hm] at hv5 hc5
             subst hv5
             have HM := Lib.hid hm
             clear hm)
          | (go_at_call 27; (with_reducible refine (clipR A5 m c5 hc5 _).mono ?_); rintro e w6 ⟨rfl, rfl⟩))
        go_ret2
        exact ⟨⟨A5, m, by rw [HE.out, HM.out]; rfl, by rw [HE.out, HM.out]; exact Nat.le_refl _, by rw [HE.out]; exact hs5⟩, b5⟩
end Go.Proofs.YtmfhlhjnfaiegaaDoor
