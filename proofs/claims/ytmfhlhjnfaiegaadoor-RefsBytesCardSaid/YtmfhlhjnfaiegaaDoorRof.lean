/- few, Of, Same of the statements: rows of refs handed over, held against each other. Conditions: twenty bytes each. -/
import Derived.Test.YtmfhlhjnfaiegaaDoorSet
import Derived.Test.YtmfhlhjnfaiegaaDoorOidEq
import Derived.Test.YtmfhlhjnfaiegaaDoorMemE
namespace Go.Proofs.YtmfhlhjnfaiegaaDoor
open Go.RowKit
set_option maxRecDepth 100000
set_option maxHeartbeats 1000000
set_option linter.unusedVariables false
def fewB (l : List Rf) : Bool := (l.take 71).all (fun r => decide (r.1.length ≤ 300)) && decide (l.length ≤ 70)
theorem few_len {l : List Rf} (h : fewB l = true) : l.length ≤ 70 ∧ ∀ r ∈ l, r.1.length ≤ 300 := by
  unfold fewB at h
  rw [Bool.and_eq_true, decide_eq_true_iff] at h
  refine ⟨h.2, fun r hr => ?_⟩
  rw [List.take_of_length_le (by omega)] at h
  exact of_decide_eq_true (List.all_eq_true.1 h.1 r hr)
theorem few_any (l : List Rf) (h20 : Rf20 l) (A : Option Addr) (c : Nat) (hc : c ≤ maxLen) (hl : l.length ≤ c) (w : World) (hA : Sl w A (rfc l)) :
    Calls Tryd.prog 6 #[.slice A l.length c] w fun e w' => e = .returned (.bool (fewB l)) ∧ w = w' := by
  obtain ⟨n, hnn⟩ : ∃ n, n = l.length := ⟨_, rfl⟩
  rw [← hnn] at hl ⊢
  have hml : n ≤ 9223372036854775807 := by unfold maxLen at hc; omega
  have HN := Lib.hid hnn; have HA := Lib.hid hA; have H20 := Lib.hid h20
  clear hnn hA h20 hc hl
  go_enter Tryd.func6, Tryd.ntmps6
  go_wp2
  go_loopw [3] (fun t3 wr => ∃ i : Nat, t3 = .int .i64 (i : Int) ∧ i ≤ n ∧ i ≤ 71 ∧ Hid (∀ j, j < i → (gtR l j).1.length ≤ 300) ∧ wr = w) (fun t3 _ => (71 - intOf t3).toNat)
  case atStart => exact ⟨0, rfl, by omega, by omega, Lib.hid (fun j h => by omega), rfl⟩
  case round =>
    obtain ⟨i, rfl, hi, hi71, HL, rfl⟩ := hrel
    by_cases hin : i < n ∧ i ≤ 70
    · obtain ⟨hin, hi70⟩ := hin
      have hil : i < l.length := by rw [← HN.out]; exact hin
      obtain ⟨ad, rfl⟩ := rsl_some HA.out H20.out i hil
      have R := rrow HA.out H20.out i hil
      obtain ⟨r, hr⟩ : ∃ r, r = gtR l i := ⟨_, rfl⟩
      rw [← hr] at R
      have hc := rname R
      have hrl : r ∈ l := by
        rw [hr]; unfold gtR
        rw [List.getD_eq_getElem?_getD, List.getElem?_eq_getElem hil]
        exact List.getElem_mem hil
      have HR := Lib.hid hr
      clear R hr
      by_cases h300 : 300 < r.1.length
      · have hB : fewB l = false := by
          cases hq : fewB l with
          | false => rfl
          | true => have := (few_len hq).2 r hrl; omega
        have HB := Lib.hid hB
        clear hB hrl
        go_wp2
        go_ret
        exact ⟨by rw [HB.out]; rfl, rfl⟩
      · clear hrl
        go_wp2
        go_roundw
        case rel => exact ⟨i + 1, by simp, by omega, by omega, Lib.hid (fun j h => by
          by_cases e : j = i
          · rw [e, ← HR.out]; omega
          · exact HL.out j (by omega)), trivial⟩
        case measure => simp only [intOf]; omega
    · have hB : fewB l = decide (n ≤ 70) := by
        by_cases h : n ≤ 70
        · rw [decide_eq_true h]
          unfold fewB
          rw [List.take_of_length_le (by rw [← HN.out]; omega), decide_eq_true (by rw [← HN.out]; exact h), Bool.and_true, List.all_eq_true]
          intro r hr
          obtain ⟨j, hj, rfl⟩ := List.mem_iff_getElem.1 hr
          have := HL.out j (by have := HN.out; omega)
          unfold gtR at this
          rw [List.getD_eq_getElem?_getD, List.getElem?_eq_getElem hj] at this
          exact decide_eq_true this
        · rw [decide_eq_false h]
          unfold fewB
          rw [decide_eq_false (by rw [← HN.out]; exact h), Bool.and_false]
      rw [show decide (n ≤ 70) = decide ((n : Int) ≤ 70) from decide_eq_decide.2 (by omega)] at hB
      have HB := Lib.hid hB
      clear hB
      by_cases hin1 : i < n
      · have h70 : 70 < i := by omega
        clear hin
        go_wp2
        go_ret
        exact ⟨by rw [HB.out]; rfl, rfl⟩
      · have hd : decide ((i : Int) < (n : Int)) = false := decide_eq_false (by omega)
        clear hin
        go_wp2
        go_ret
        exact ⟨by rw [HB.out]; rfl, rfl⟩
/-- a guarded load in a region that stays as it is -/
theorem wpStill_loadG {P : Program} {ops : Array Oper} {w : World} {Q : Act → Prop} {a : Act} {o : Oper} {rest : List Oper} (ty : TypeId) (x : Operand) (ho : o.op = .load ty x)
    (ad : Addr) (hx : a.eval x = .pointer (some ad)) (v : Value) (hl : (loadVar ty ad).run P w = .ok v w) (hw : Region.wanted o (yielded ops a.tmps) = true)
    (h : wpStill P ops w Q rest (a.put o.dst v)) : wpStill P ops w Q (o :: rest) a := by
  refine wpStill_step fun K hK => ?_
  rw [if_pos hw]
  unfold Oper.still execOp
  simp only [ho, hx, Instr.loadAt, Instr.sureAddr, Sem.run_bind, Sem.run_pure, Result.andThen_ok, hl]
  exact ⟨rfl, hK _ h⟩
theorem infoRefR : (Tryd.prog.info? 55).map (fun i => (i.zero, i.size, i.bytes)) = some (some (rfv ([], zs20)), 21, 40) := by kernel_rfl
abbrev WinQ (w : World) (B : Nat) (v : Value) (l : List Rf) : Prop := Win w B 55 21 v l.length (rfc l)
theorem built_refR20 (s : List UInt8) (a0 a1 a2 a3 a4 a5 a6 a7 a8 a9 b0 b1 b2 b3 b4 b5 b6 b7 b8 b9 : UInt8) : Tryd.prog.built 55 [(0, .string (bstr s)), (1, idv [a0, a1, a2, a3, a4, a5, a6, a7, a8, a9, b0, b1, b2, b3, b4, b5, b6, b7, b8, b9])] = some (rcell (s, [a0, a1, a2, a3, a4, a5, a6, a7, a8, a9, b0, b1, b2, b3, b4, b5, b6, b7, b8, b9])).toArray := by kernel_rfl
theorem built_refR (s id : List UInt8) (h : id.length = 20) : Tryd.prog.built 55 [(0, .string (bstr s)), (1, idv id)] = some (rcell (s, id)).toArray :=
  match id, h with
  | [a0, a1, a2, a3, a4, a5, a6, a7, a8, a9, b0, b1, b2, b3, b4, b5, b6, b7, b8, b9], _ => built_refR20 s a0 a1 a2 a3 a4 a5 a6 a7 a8 a9 b0 b1 b2 b3 b4 b5 b6 b7 b8 b9
theorem wpList_buildQ {ops : Array Oper} {rest : List Oper} {o : Oper} {a : Act} {w : World} {Q : Exit → Act → World → Prop} (hg : o.guard = none) (x y : Operand) (ho : o.op = .build 55 #[(0, x), (1, y)])
    (s id : List UInt8) (hid : id.length = 20) (hx : a.eval x = .string (bstr s)) (hy : a.eval y = idv id) (h : wpList Tryd.prog ops Q rest (a.put o.dst (rfv (s, id))) w) : wpList Tryd.prog ops Q (o :: rest) a w := by
  refine wpList_plain hg fun K hK => ?_
  have hr := run_build (P := Tryd.prog) w 55 #[(0, .string (bstr s)), (1, idv id)] _ (built_refR s id hid)
  unfold Oper.wp
  simp [execOp, ho, hx, hy, hr, Result.andThen]
  exact hK _ _ h
theorem wpQuiet_buildQ {ops : Array Oper} {C : World → Prop} {rest : List Oper} {o : Oper} {Q : Act → Prop} {l : List Value} {df : List Deferred} (x y : Operand) (ho : o.op = .build 55 #[(0, x), (1, y)])
    (s id : List UInt8) (hid : id.length = 20) (hx : Act.eval ⟨l.toArray, df⟩ x = .string (bstr s)) (hy : Act.eval ⟨l.toArray, df⟩ y = idv id) (d : Nat) (hd : o.dst = some d) (hw : Region.wanted o (yielded ops l.toArray) = true)
    (h : wpQuiet Tryd.prog ops C Q rest ⟨(l.set d (rfv (s, id))).toArray, df⟩) : wpQuiet Tryd.prog ops C Q (o :: rest) ⟨l.toArray, df⟩ :=
  wpQuiet_pure d hd hw (rfv (s, id)) (fun w => by
    have hr := run_build (P := Tryd.prog) w 55 #[(0, .string (bstr s)), (1, idv id)] _ (built_refR s id hid)
    simp [execOp, ho, hx, hy, hr, Result.andThen]) h
theorem wpList_oneQ {ops : Array Oper} {rest : List Oper} {o : Oper} {a : Act} {w : World} {Q : Exit → Act → World → Prop} (hg : o.guard = none) (x : Operand) (ho : o.op = .buildSlice 31 1 #[(0, x)])
    (s id : List UInt8) (hid : id.length = 20) (hx : a.eval x = rfv (s, id)) (h : wpList Tryd.prog ops Q rest (a.put o.dst (.slice (some ⟨w.heap.size, 0, none⟩) 1 1)) (w.alloc (.cells (rcell (s, id)).toArray 55))) : wpList Tryd.prog ops Q (o :: rest) a w := by
  obtain ⟨i, hi, hz, hsize, hby⟩ := info_parts infoRefR
  refine wpList_plain hg fun K hK => ?_
  have hr := run_buildSlice (P := Tryd.prog) w 31 55 1 #[(0, rfv (s, id))] (rcell (s, id)).toArray i _ Tryd.underlying31 hi hz (by rw [hsize]; decide) (by rw [hsize]; decide) (by rw [hsize]; exact fill_ref s id hid)
  unfold Oper.wp
  simp [execOp, ho, hx, hr, Result.andThen]
  exact hK _ _ h
theorem appQ {w : World} {ops : Array Oper} {rest : List Oper} {o : Oper} {a : Act} {Q : Exit → Act → World → Prop} (hgd : o.guard = none) (s x : Operand)
    (ho : o.op = .call { callee := .builtin .append, args := #[s, x], argTypes := #[31, 31] })
    (B : Nat) (v : Value) (l : List Rf) (hs : a.eval s = v) (hown : WinQ w B v l) (A : Option Addr) (c : Nat) (m : List Rf) (h20 : Rf20 m) (hx : a.eval x = .slice A m.length c) (hA : Sl w A (rfc m))
    (hb : l.length + m.length ≤ 1024) (hB : B ≤ w.heap.size)
    (h : ∀ v' w', WinQ w' B v' (l ++ m) → Kp (fun k => v.ownBlock = some k) w w' → (v'.ownBlock = v.ownBlock ∨ v'.ownBlock = some w.heap.size) → wpList Tryd.prog ops Q rest (a.put o.dst v') w') : wpList Tryd.prog ops Q (o :: rest) a w :=
  wpList_appW hgd s x 31 31 ho B 55 (rfv ([], zs20)) 21 40 Tryd.underlying31 infoRefR rfl (by decide) v l.length (rfc l) hs hown (.slice A m.length c) m.length (rfc m) hx (srcOf Tryd.underlying31 (by decide) (rfc_len h20) hA (rfc_one m)) (by omega) (by unfold maxLen; omega) hB
    (fun v' w' h1 h2 h3 => h v' w' (by rw [WinQ, List.length_append, rfc_app]; exact h1) h2 h3)
theorem of_any (l : List Rf) (h20 : Rf20 l) (hn : l.length ≤ 256) (A : Option Addr) (c : Nat) (w : World) (hA : Sl w A (rfc l)) :
    Calls Tryd.prog 9 #[.slice A l.length c] w fun e w' => (∃ v, e = .returned v ∧ WinQ w' w.heap.size v l) ∧ Below w.heap.size w w' := by
  obtain ⟨n, hnn⟩ : ∃ n, n = l.length := ⟨_, rfl⟩
  rw [← hnn]
  have hn2 : n ≤ 256 := by omega
  have HN := Lib.hid hnn; have HA := Lib.hid hA; have H20 := Lib.hid h20
  clear hnn hA h20 hn
  go_enter Tryd.func9, Tryd.ntmps9
  go_wp2
  go_loopw [3, 4] (fun t3 t4 wr => ∃ i : Nat, t4 = .int .i64 (i : Int) ∧ i ≤ n ∧ Hid (WinQ wr w.heap.size t3 (l.take i)) ∧ Below w.heap.size w wr) (fun _ t4 _ => (n - intOf t4).toNat)
  case atStart => exact ⟨0, rfl, by omega, Lib.hid (by rw [List.take_zero]; exact Win.nil _ _ _ _), Below.refl _ _⟩
  case round =>
    obtain ⟨i, rfl, hi, HW, hbw⟩ := hrel
    by_cases hin : i < n
    · have hil : i < l.length := by rw [← HN.out]; exact hin
      obtain ⟨ad, rfl⟩ := rsl_some HA.out H20.out i hil
      have R := (rrow HA.out H20.out i hil).below hbw
      have r20 := gtR_20 H20.out i hil
      have htk : l.take (i + 1) = l.take i ++ [gtR l i] := by
        rw [List.take_add_one, List.getElem?_eq_getElem hil]
        unfold gtR
        rw [List.getD_eq_getElem?_getD, List.getElem?_eq_getElem hil]; rfl
      have htl : (l.take i).length = i := by rw [List.length_take]; omega
      obtain ⟨r, hr⟩ : ∃ r, r = gtR l i := ⟨_, rfl⟩
      rw [← hr] at R r20 htk
      have l1 : ∀ w', Below wr.heap.size wr w' → (loadVar 9 (ad.add (i * 21))).run Tryd.prog w' = .ok (.string (bstr r.1)) w' := fun w' h => load_one (fun w => by kernel_rfl) (rname (R.below h))
      have l2 : ∀ w', Below wr.heap.size wr w' → (loadVar 41 ((ad.add (i * 21)).add 1)).run Tryd.prog w' = .ok (idv r.2) w' := fun w' h => load_idT 41 (fun w => by kernel_rfl) (fun w => by kernel_rfl) r.2 r20 _ _ (rid (R.below h))
      have HTK := Lib.hid htk; have R20 := Lib.hid r20; have HTL := Lib.hid htl; have L1 := Lib.hid l1; have L2 := Lib.hid l2; have HBW := Lib.hid hbw
      clear htk hr R r20 htl l1 l2
      go_upto_region 5 with fail
      refine wp_region_quiet_tail1 12 (C := fun w' => Below wr.heap.size wr w') (Below.refl _ _).drew (by kernel_rfl) (by decide +kernel) _ rfl u3 (fun _ _ _ h => h) (Or.inl ⟨rfl, fun w => rfl⟩) ?_
      simp only [List.take_succ_cons, List.take_zero, List.drop_succ_cons, List.drop_zero, Act.put, List.setIfInBounds_toArray, List.set_cons_succ, List.set_cons_zero]
      repeat (first
        | (refine wpQuiet_load 9 (.tmp 15) rfl (ad.add (i * 21)) rfl (.string (bstr r.1)) L1.out _ rfl rfl ?_; simp only [List.set_cons_succ, List.set_cons_zero])
        | (refine wpQuiet_load 41 (.tmp 20) rfl ((ad.add (i * 21)).add 1) rfl (idv r.2) L2.out _ rfl rfl ?_; simp only [List.set_cons_succ, List.set_cons_zero])
        | (refine wpQuiet_buildQ (.tmp 16) (.tmp 21) rfl r.1 r.2 R20.out rfl rfl _ rfl rfl ?_; simp only [List.set_cons_succ, List.set_cons_zero])
        | go_big_quiet_step ((intro hb; rfl)))
      refine wpQuiet_nil ?_
      intro w' hw'
      go_wp2_with (first
        | (refine wpList_oneQ rfl (.tmp 22) rfl r.1 r.2 R20.out rfl ?_)
        | (at_builtin
           have hA4 : Sl (w'.alloc (.cells (rcell r).toArray 55)) (some ⟨w'.heap.size, 0, none⟩) (rfc [r]) := Sl.of_block (heap_alloc_new _ _) (fun j v hj => by simpa [rfc] using hj)
           have bA : Below wr.heap.size wr (w'.alloc (.cells (rcell r).toArray 55)) := hw'.alloc hw'.size _
           refine appQ rfl (.tmp 11) (.tmp 23) rfl w.heap.size _ (l.take i) rfl (Win.below HW.out bA) (some ⟨w'.heap.size, 0, none⟩) 1 [r] (fun x hx => by obtain rfl := List.mem_singleton.1 hx; exact R20.out) rfl hA4 (by rw [HTL.out]; simp; omega) (Nat.le_trans hbw.size bA.size) ?_
           intro v2 w2 hw2 hk2 _
           have b2 : Below w.heap.size w w2 := (HBW.out.trans (bA.mono HBW.out.size)).trans (hk2.toBelow (Nat.le_trans HBW.out.size bA.size) (fun k hk e => absurd (HW.out.block k e).1 (by omega)))))
      go_roundw
      case rel => exact ⟨i + 1, by simp, by omega, Lib.hid (by rw [HTK.out]; exact hw2), b2⟩
      case measure => simp only [intOf]; omega
    · obtain rfl : i = n := by omega
      have hw := HW.out
      rw [List.take_of_length_le (by rw [← HN.out]; exact Nat.le_refl _)] at hw
      have HW2 := Lib.hid hw
      clear hw HW
      go_wp2
      go_ret
      exact ⟨⟨_, rfl, by have := HW2.out; unfold WinQ at *; rwa [← HN.out] at *⟩, hbw⟩
theorem neqS_run (a b : List UInt8) (q : Bool) (h : decide (a = b) = q) (w : World) : (binOp .neq 9 (.string (bstr a)) (.string (bstr b))).run Tryd.prog w = .ok (.bool (!q)) w := by
  rw [binOp_string_neq, Lib.toList_data, Lib.toList_data, ← h]
  by_cases e : a = b
  · subst e; simp
  · simp [e]
theorem same_any (l m : List Rf) (h20 : Rf20 l) (m20 : Rf20 m) (hn : l.length ≤ 256) (hm : m.length ≤ 256) (A A2 : Option Addr) (c c2 : Nat) (w : World) (hA : Sl w A (rfc l)) (hA2 : Sl w A2 (rfc m)) :
    Calls Tryd.prog 12 #[.slice A l.length c, .slice A2 m.length c2] w fun e w' => e = .returned (.bool (decide (l = m))) ∧ Below w.heap.size w w' := by
  by_cases hlm : l.length = m.length
  · obtain ⟨n, hnn⟩ : ∃ n, n = l.length := ⟨_, rfl⟩
    have hnm : n = m.length := by omega
    rw [← hnm, ← hnn]
    have hn2 : n ≤ 256 := by omega
    have HN := Lib.hid hnn; have HNM := Lib.hid hnm; have HA := Lib.hid hA; have HA2 := Lib.hid hA2; have H20 := Lib.hid h20; have M20 := Lib.hid m20
    clear hnn hnm hA hA2 h20 m20 hn hm hlm
    go_enter Tryd.func12, Tryd.ntmps12
    go_wp2
    go_loopw [5] (fun t5 wr => ∃ i : Nat, t5 = .int .i64 (i : Int) ∧ i ≤ n ∧ Hid (∀ j, j < i → gtR l j = gtR m j) ∧ Below w.heap.size w wr) (fun t5 _ => (n - intOf t5).toNat)
    case atStart => exact ⟨0, rfl, by omega, Lib.hid (fun j h => by omega), Below.refl _ _⟩
    case round =>
      obtain ⟨i, rfl, hi, HE, hbw⟩ := hrel
      by_cases hin : i < n
      · have hil : i < l.length := by rw [← HN.out]; exact hin
        have him : i < m.length := by rw [← HNM.out]; exact hin
        obtain ⟨ad, rfl⟩ := rsl_some HA.out H20.out i hil
        obtain ⟨ad2, rfl⟩ := rsl_some HA2.out M20.out i him
        have R := (rrow HA.out H20.out i hil).below hbw
        have R2 := (rrow HA2.out M20.out i him).below hbw
        have x20 := gtR_20 H20.out i hil
        have y20 := gtR_20 M20.out i him
        have hbad : gtR l i ≠ gtR m i → decide (l = m) = false := fun h => decide_eq_false (fun e => h (by rw [e]))
        obtain ⟨x, hx⟩ : ∃ x, x = gtR l i := ⟨_, rfl⟩
        obtain ⟨y, hy⟩ : ∃ y, y = gtR m i := ⟨_, rfl⟩
        rw [← hx] at R x20 hbad
        rw [← hy] at R2 y20 hbad
        have l1 : ∀ w', Below wr.heap.size wr w' → (loadVar 9 (ad.add (i * 21))).run Tryd.prog w' = .ok (.string (bstr x.1)) w' := fun w' h => load_one (fun w => by kernel_rfl) (rname (R.below h))
        have l2 : ∀ w', Below wr.heap.size wr w' → (loadVar 41 ((ad.add (i * 21)).add 1)).run Tryd.prog w' = .ok (idv x.2) w' := fun w' h => load_idT 41 (fun w => by kernel_rfl) (fun w => by kernel_rfl) x.2 x20 _ _ (rid (R.below h))
        have l3 : ∀ w', Below wr.heap.size wr w' → (loadVar 9 (ad2.add (i * 21))).run Tryd.prog w' = .ok (.string (bstr y.1)) w' := fun w' h => load_one (fun w => by kernel_rfl) (rname (R2.below h))
        have l4 : ∀ w', Below wr.heap.size wr w' → (loadVar 40 ((ad2.add (i * 21)).add 1)).run Tryd.prog w' = .ok (idv y.2) w' := fun w' h => load_idT 40 (fun w => by kernel_rfl) (fun w => by kernel_rfl) y.2 y20 _ _ (rid (R2.below h))
        have L1 := Lib.hid l1; have L2 := Lib.hid l2; have L3 := Lib.hid l3; have L4 := Lib.hid l4; have HBW := Lib.hid hbw; have HX := Lib.hid hx; have HY := Lib.hid hy; have HBAD := Lib.hid hbad
        clear R R2 l1 l2 l3 l4 hx hy hbad
        by_cases h1 : x.1 = y.1
        · have q1 : (x.1 == y.1) = true := beq_iff_eq.2 h1
          by_cases h2 : x.2 = y.2
          · have q2 : ∀ w, (binOp .neq 41 (idv x.2) (idv y.2)).run Tryd.prog w = .ok (.bool false) w := fun w => by rw [neq_run 41 (by kernel_rfl) x.2 y.2 x20 y20 w]; simp [h2]
            have hxy : x = y := Prod.ext h1 h2
            have HXY := Lib.hid hxy
            clear h1 h2 hxy
            go_upto_region 6 with fail
            refine wp_region_quietC (C := fun w' => Below wr.heap.size wr w') (Below.refl _ _).drew (by kernel_rfl) (by kernel_rfl) ?_
            repeat (first
              | (refine wpQuiet_load 9 (.tmp 20) rfl (ad.add (i * 21)) rfl (.string (bstr x.1)) L1.out _ rfl rfl ?_; simp only [List.set_cons_succ, List.set_cons_zero])
              | (refine wpQuiet_load 9 (.tmp 25) rfl (ad2.add (i * 21)) rfl (.string (bstr y.1)) L3.out _ rfl rfl ?_; simp only [List.set_cons_succ, List.set_cons_zero])
              | (refine wpQuiet_load 41 (.tmp 32) rfl ((ad.add (i * 21)).add 1) rfl (idv x.2) L2.out _ rfl rfl ?_; simp only [List.set_cons_succ, List.set_cons_zero])
              | (refine wpQuiet_load 40 (.tmp 37) rfl ((ad2.add (i * 21)).add 1) rfl (idv y.2) L4.out _ rfl rfl ?_; simp only [List.set_cons_succ, List.set_cons_zero])
              | go_big_quiet_step ((intro hb; rfl)))
            refine wpQuiet_nil ?_
            intro w' hw'
            go_wp2
            go_roundw
            case rel => exact ⟨i + 1, by simp, by omega, Lib.hid (fun j hj => by
              by_cases e : j = i
              · rw [e, ← HX.out, ← HY.out]; exact HXY.out
              · exact HE.out j (by omega)), HBW.out.trans (hw'.mono HBW.out.size)⟩
            case measure => simp only [intOf]; omega
          · have q2 : ∀ w, (binOp .neq 41 (idv x.2) (idv y.2)).run Tryd.prog w = .ok (.bool true) w := fun w => by rw [neq_run 41 (by kernel_rfl) x.2 y.2 x20 y20 w]; simp [h2]
            have HB := Lib.hid (HBAD.out (fun e => h2 (by rw [e])))
            clear h1 h2
            go_upto_region 6 with fail
            refine wp_region_quietC (C := fun w' => Below wr.heap.size wr w') (Below.refl _ _).drew (by kernel_rfl) (by kernel_rfl) ?_
            repeat (first
              | (refine wpQuiet_load 9 (.tmp 20) rfl (ad.add (i * 21)) rfl (.string (bstr x.1)) L1.out _ rfl rfl ?_; simp only [List.set_cons_succ, List.set_cons_zero])
              | (refine wpQuiet_load 9 (.tmp 25) rfl (ad2.add (i * 21)) rfl (.string (bstr y.1)) L3.out _ rfl rfl ?_; simp only [List.set_cons_succ, List.set_cons_zero])
              | (refine wpQuiet_load 41 (.tmp 32) rfl ((ad.add (i * 21)).add 1) rfl (idv x.2) L2.out _ rfl rfl ?_; simp only [List.set_cons_succ, List.set_cons_zero])
              | (refine wpQuiet_load 40 (.tmp 37) rfl ((ad2.add (i * 21)).add 1) rfl (idv y.2) L4.out _ rfl rfl ?_; simp only [List.set_cons_succ, List.set_cons_zero])
              | go_big_quiet_step ((intro hb; rfl)))
            refine wpQuiet_nil ?_
            intro w' hw'
            go_wp2
            go_ret
            exact ⟨by rw [HB.out]; rfl, HBW.out.trans (hw'.mono HBW.out.size)⟩
        · have q1 : (x.1 == y.1) = false := beq_eq_false_iff_ne.2 h1
          have HB := Lib.hid (HBAD.out (fun e => h1 (by rw [e])))
          clear h1
          go_upto_region 6 with fail
          refine wp_region_quietC (C := fun w' => Below wr.heap.size wr w') (Below.refl _ _).drew (by kernel_rfl) (by kernel_rfl) ?_
          iterate 4 (go_big_quiet_step ((intro hb; rfl)))
          (refine wpQuiet_load 9 (.tmp 20) rfl (ad.add (i * 21)) rfl (.string (bstr x.1)) L1.out _ rfl rfl ?_; simp only [List.set_cons_succ, List.set_cons_zero])
          iterate 4 (go_big_quiet_step ((intro hb; rfl)))
          (refine wpQuiet_load 9 (.tmp 25) rfl (ad2.add (i * 21)) rfl (.string (bstr y.1)) L3.out _ rfl rfl ?_; simp only [List.set_cons_succ, List.set_cons_zero])
          go_big_quiet_step ((intro hb; rfl))
          with_reducible refine wpQuiet_pure 28 rfl (by kernel_rfl) (.bool true) (fun w => by kernel_rfl) ?_
          simp only [List.set_cons_succ, List.set_cons_zero]
          iterate 11 (with_reducible refine wpQuiet_skip _ rfl (by kernel_rfl) ?_; simp only [List.set_cons_succ, List.set_cons_zero])
          with_reducible refine wpQuiet_pure 40 rfl (by kernel_rfl) (.bool true) (fun w => by kernel_rfl) ?_
          simp only [List.set_cons_succ, List.set_cons_zero]
          refine wpQuiet_nil ?_
          intro w' hw'
          go_wp2
          go_ret
          exact ⟨by rw [HB.out]; rfl, HBW.out.trans (hw'.mono HBW.out.size)⟩
      · have hlm : l = m := by
          refine List.ext_getElem (by rw [← HN.out, ← HNM.out]) fun j h1 h2 => ?_
          have := HE.out j (by have := HN.out; omega)
          unfold gtR at this
          rwa [List.getD_eq_getElem?_getD, List.getD_eq_getElem?_getD, List.getElem?_eq_getElem h1, List.getElem?_eq_getElem h2] at this
        have HB := Lib.hid (decide_eq_true hlm)
        have hd : decide ((i : Int) < (n : Int)) = false := decide_eq_false (by omega)
        clear hlm
        go_wp2
        go_ret
        exact ⟨by rw [HB.out]; rfl, hbw⟩
  · have hd : decide (l = m) = false := decide_eq_false (fun e => hlm (by rw [e]))
    have HD := Lib.hid hd
    obtain ⟨n, hnn⟩ : ∃ n, n = l.length := ⟨_, rfl⟩
    obtain ⟨k, hk⟩ : ∃ k, k = m.length := ⟨_, rfl⟩
    have hne : ((n : Int) == (k : Int)) = false := by simp; omega
    rw [← hnn, ← hk]
    clear hd hnn hk hlm hA hA2 h20 m20 hn hm
    go_enter Tryd.func12, Tryd.ntmps12
    go_wp2
    go_ret
    exact ⟨by rw [HD.out]; rfl, Below.refl _ _⟩
end Go.Proofs.YtmfhlhjnfaiegaaDoor
