/- OidTexts answers true. Condition: none on the name; the text is of any length. -/
import Derived.Test.YtjiiploleinobaaOidK
import Derived.Test.YtjiiploleinobaaOidE
namespace Go.Proofs.Ytjiiploleinobaa
open Go.RowKit
set_option maxRecDepth 100000
set_option maxHeartbeats 4000000
set_option linter.unusedVariables false
/-- a load in a region that draws its order, in every world of the class -/
theorem wpQuiet_load {P : Program} {C : World → Prop} {ops : Array Oper} {rest : List Oper} {o : Oper} {Q : Act → Prop} {l : List Value} {df : List Deferred} (ty : TypeId) (x : Operand) (ho : o.op = .load ty x)
    (ad : Addr) (hx : Act.eval ⟨l.toArray, df⟩ x = .pointer (some ad)) (v : Value) (hl : ∀ w, C w → (loadVar ty ad).run P w = .ok v w) (d : Nat) (hd : o.dst = some d) (hw : Region.wanted o (yielded ops l.toArray) = true)
    (h : wpQuiet P ops C Q rest ⟨(l.set d v).toArray, df⟩) : wpQuiet P ops C Q (o :: rest) ⟨l.toArray, df⟩ := by
  refine wpQuiet_step fun K hK => ?_
  rw [if_pos hw]
  refine ⟨v, fun w hC => ?_, ?_⟩
  · unfold Oper.quietAt execOp
    simp only [ho, hx, Instr.loadAt, Instr.sureAddr, Sem.run_bind, Sem.run_pure, Result.andThen_ok, hl w hC]
    exact ⟨rfl, rfl⟩
  · have : (Act.put ⟨l.toArray, df⟩ o.dst v) = ⟨(l.set d v).toArray, df⟩ := by
      simp [Act.put, hd]
    rw [this]
    exact hK _ h
theorem load_id22 (id : List UInt8) (hid : id.length = 20) (ad : Addr) (w : World) (h : Sl w (some ad) (bvs id)) : (loadVar 22 ad).run Try.prog w = .ok (idv id) w := by
  have hl : (loadCells ad (bvs id).length).run Try.prog w = .ok (bvs id).toArray w :=
    run_loadCells_list (P := Try.prog) w ad (bvs id) (fun j v hv => by obtain ⟨ad', e, hc⟩ := h j v hv; injection e with e; subst e; exact hc)
  rw [bvs_length, hid] at hl
  have hagg : (isAgg 22).run Try.prog w = .ok true w := by kernel_rfl
  have hsz : (sizeOf 22).run Try.prog w = .ok 20 w := by kernel_rfl
  simp [loadVar, Sem.run_bind, hagg, hsz, hl]
theorem texts_big (id : List UInt8) (s : ByteArray) (w : World) (hs : 300 < s.size) : Calls Try.prog 3 #[idv id, .string s] w fun e w' => e = .returned (.bool true) ∧ Below w.heap.size w w' := by
  have hb0 : Below w.heap.size w (w.alloc (.cells (bvs id).toArray 23)) := (Below.refl _ _).alloc (Nat.le_refl _) _
  go_enter Try.func3, Try.ntmps3
  go_wp2_with (go_at_call 8; (with_reducible refine (known_any _).mono ?_); rintro e w1 ⟨rfl, hb1⟩)
  go_ret
  exact ⟨rfl, hb0.trans (hb1.mono hb0.size)⟩
theorem texts_any (id : List UInt8) (hid : id.length = 20) (s : ByteArray) (w : World) : Calls Try.prog 3 #[idv id, .string s] w fun e w' => e = .returned (.bool true) ∧ Below w.heap.size w w' := by
  by_cases hs : 300 < s.size
  · exact texts_big id s w hs
  have hb0 : Below w.heap.size w (w.alloc (.cells (bvs id).toArray 23)) := (Below.refl _ _).alloc (Nat.le_refl _) _
  have hs0 : Sl (w.alloc (.cells (bvs id).toArray 23)) (some ⟨w.heap.size, 0, none⟩) (bvs id) := Sl.of_block (heap_alloc_new _ _) (fun j v hj => by simpa using hj)
  have kp : ∀ w, Calls Try.prog 9 #[.string s] w fun e w' => e = .returned (.tuple #[idv (parseI s.data.toList).1, .int .i64 ((parseI s.data.toList).2 : Nat)]) ∧ Below w.heap.size w w' := fun w => parse_any s w (by omega)
  have kr : ∀ w, Calls Try.prog 10 #[.string s] w fun e w' => e = .returned (.tuple #[idv (parseI s.data.toList).1, .int .i64 ((parseI s.data.toList).2 : Nat)]) ∧ Below w.heap.size w w' := fun w => parseRef_any s w (by omega)
  have hxl := parseI_len s.data.toList
  obtain ⟨x, hx⟩ : ∃ x, x = (parseI s.data.toList).1 := ⟨_, rfl⟩
  obtain ⟨n, hn⟩ : ∃ n, n = (parseI s.data.toList).2 := ⟨_, rfl⟩
  rw [← hx, ← hn] at kp kr
  rw [← hx] at hxl
  clear hx hn
  have kh : ∀ w, Calls Try.prog 11 #[idv id] w fun e w' => e = .returned (.string (bstr (hexs id))) ∧ Below w.heap.size w w' := fun w => hex_any id w hid
  have kg : ∀ w, Calls Try.prog 12 #[idv id] w fun e w' => e = .returned (.string (bstr (hexs id))) ∧ Below w.heap.size w w' := fun w => hexRef_any id w hid
  have kz : ∀ w, Calls Try.prog 9 #[.string (bstr (hexs id))] w fun e w' => e = .returned (.tuple #[idv id, .int .i64 0]) ∧ Below w.heap.size w w' := fun w => by
    have h := parse_any (bstr (hexs id)) w (by
      have := hexs_len id
      show (hexs id).toArray.size ≤ _
      simp; omega)
    have e : (bstr (hexs id)).data.toList = hexs id := by simp
    rw [e, parseI_hexs id hid] at h
    exact h
  have zi := Lib.hid (info23 x hxl)
  have zi2 := Lib.hid (info22 x hxl)
  have zj := Lib.hid (info23 id hid)
  have HX := Lib.hid hxl
  have HI := Lib.hid hid
  clear hxl hid
  have HS0 := Lib.hid hs0
  have HB0 := Lib.hid hb0
  clear hs0 hb0
  go_enter Try.func3, Try.ntmps3
  go_upto_region 6 with (first
    | (go_at_call 8; (with_reducible refine (known_any _).mono ?_); rintro e w1 ⟨rfl, hb1⟩)
    | (go_at_call 9; (with_reducible refine (kp _).mono ?_); rintro e w2 ⟨rfl, hb2⟩)
    | (refine wpList_store_row rfl 23 (.tmp 5) (.tmp 19) rfl w2.heap.size (bvs x).toArray rfl rfl 23 (bvs zs20).toArray (heap_alloc_new _ _) zi.out (by simp [HX.out, zs20_len]) (one_bvs _) ?_))
  simp only [zlit]
  have C1 := HB0.out.trans (hb1.mono HB0.out.size)
  have C2 := C1.trans (hb2.mono C1.size)
  have S1 := (HS0.out.below hb1).below hb2
  obtain ⟨r2, b2⟩ := new_set w2 23 (bvs zs20).toArray (bvs x).toArray
  obtain ⟨W1, hW1⟩ : ∃ W1, W1 = (w2.alloc (.cells (bvs zs20).toArray 23)).setRow w2.heap.size (bvs x).toArray := ⟨_, rfl⟩
  obtain ⟨g1, hg1⟩ : ∃ g1, g1 = w2.heap.size := ⟨_, rfl⟩
  rw [← hW1] at r2 b2 ⊢
  rw [← hg1] at r2
  simp only [← hg1]
  have X1 : Sl W1 (some ⟨g1, 0, none⟩) (bvs x) := Sl.of_block r2 (fun j v hj => by simpa using hj)
  have I1 := S1.below b2
  have D1 := C2.trans (b2.mono C2.size)
  clear hW1 r2 b2 S1 C2 C1 HB0 HS0 hb1 hb2 hg1
  have HX1 := Lib.hid X1; have HI1 := Lib.hid I1; have HD1 := Lib.hid D1
  clear X1 I1 D1
  go_upto_region 7 with (first
    | (go_at_call 10; (with_reducible refine (kr _).mono ?_); rintro e w3 ⟨rfl, hb3⟩)
    | (refine wpList_store_row rfl 22 (.tmp 7) (.tmp 24) rfl w3.heap.size (bvs x).toArray rfl rfl 22 (bvs zs20).toArray (heap_alloc_new _ _) zi2.out (by simp [HX.out, zs20_len]) (one_bvs _) ?_))
  simp only [zlit]
  obtain ⟨r3, b3⟩ := new_set w3 22 (bvs zs20).toArray (bvs x).toArray
  obtain ⟨W2, hW2⟩ : ∃ W2, W2 = (w3.alloc (.cells (bvs zs20).toArray 22)).setRow w3.heap.size (bvs x).toArray := ⟨_, rfl⟩
  obtain ⟨g2, hg2⟩ : ∃ g2, g2 = w3.heap.size := ⟨_, rfl⟩
  rw [← hW2] at r3 b3 ⊢
  rw [← hg2] at r3
  simp only [← hg2]
  have Y2 : Sl W2 (some ⟨g2, 0, none⟩) (bvs x) := Sl.of_block r3 (fun j v hj => by simpa using hj)
  have X2 := (HX1.out.below hb3).below b3
  have I2 := (HI1.out.below hb3).below b3
  have D2 := (HD1.out.trans (hb3.mono HD1.out.size))
  have D2 := D2.trans (b3.mono D2.size)
  clear hW2 r3 b3 HX1 HI1 HD1 hb3 hg2
  have lo2 := load_id id HI.out _ _ I2
  have HX2 := Lib.hid X2; have HI2 := Lib.hid I2; have HD2 := Lib.hid D2; have HY2 := Lib.hid Y2
  clear X2 I2 D2 Y2
  go_upto_region 8 with (first
    | (refine wpList_loadG 23 (.tmp 2) rfl ⟨w.heap.size, 0, none⟩ rfl (idv id) lo2 rfl ?_)
    | (go_at_call 11; (with_reducible refine (kh _).mono ?_); rintro e w4 ⟨rfl, hb4⟩)
    | (go_at_call 9; (with_reducible refine (kz _).mono ?_); rintro e w5 ⟨rfl, hb5⟩)
    | (refine wpList_store_row rfl 23 (.tmp 9) (.tmp 30) rfl w5.heap.size (bvs id).toArray rfl rfl 23 (bvs zs20).toArray (heap_alloc_new _ _) zj.out (by simp [HI.out, zs20_len]) (one_bvs _) ?_))
  simp only [zlit]
  obtain ⟨r5, b5⟩ := new_set w5 23 (bvs zs20).toArray (bvs id).toArray
  obtain ⟨W, hW⟩ : ∃ W, W = (w5.alloc (.cells (bvs zs20).toArray 23)).setRow w5.heap.size (bvs id).toArray := ⟨_, rfl⟩
  obtain ⟨g3, hg3⟩ : ∃ g3, g3 = w5.heap.size := ⟨_, rfl⟩
  rw [← hW] at r5 b5 ⊢
  rw [← hg3] at r5
  simp only [← hg3]
  have Z : Sl W (some ⟨g3, 0, none⟩) (bvs id) := Sl.of_block r5 (fun j v hj => by simpa using hj)
  have X := ((HX2.out.below hb4).below hb5).below b5
  have I := ((HI2.out.below hb4).below hb5).below b5
  have Y := ((HY2.out.below hb4).below hb5).below b5
  have D := (HD2.out.trans (hb4.mono HD2.out.size))
  have D := (D.trans (hb5.mono D.size))
  have D := D.trans (b5.mono D.size)
  clear hW r5 b5 HX2 HI2 HD2 HY2 hb4 hb5 hg3 lo2
  have lx : ∀ w', Below W.heap.size W w' → (loadVar 23 ⟨g1, 0, none⟩).run Try.prog w' = .ok (idv x) w' := fun w' h => load_id x HX.out _ _ (X.below h)
  have ly : ∀ w', Below W.heap.size W w' → (loadVar 22 ⟨g2, 0, none⟩).run Try.prog w' = .ok (idv x) w' := fun w' h => load_id22 x HX.out _ _ (Y.below h)
  have li : ∀ w', Below W.heap.size W w' → (loadVar 23 ⟨w.heap.size, 0, none⟩).run Try.prog w' = .ok (idv id) w' := fun w' h => load_id id HI.out _ _ (I.below h)
  have lz : ∀ w', Below W.heap.size W w' → (loadVar 23 ⟨g3, 0, none⟩).run Try.prog w' = .ok (idv id) w' := fun w' h => load_id id HI.out _ _ (Z.below h)
  have LX := Lib.hid lx; have LY := Lib.hid ly; have LI := Lib.hid li; have LZ := Lib.hid lz
  clear lx ly li lz X Y Z I kp kr kz
  have e1 : ∀ w, (Op.equalIn 10000 23 (idv x) (idv x)).run Try.prog w = .ok true w := fun w => by rw [eqlIn_run 23 Try.underlying23 x x HX.out HX.out w, decide_eq_true rfl]
  have e2 : ∀ w, (Op.equalIn 10000 23 (idv id) (idv id)).run Try.prog w = .ok true w := fun w => by rw [eqlIn_run 23 Try.underlying23 id id HI.out HI.out w, decide_eq_true rfl]
  have k1 : ∀ w', Below W.heap.size W w' → Calls Try.prog 11 #[idv id] w' fun e w'' => e = .returned (.string (bstr (hexs id))) ∧ Below W.heap.size W w'' := fun w' h => quietB h (kh w')
  have k2 : ∀ w', Below W.heap.size W w' → Calls Try.prog 12 #[idv id] w' fun e w'' => e = .returned (.string (bstr (hexs id))) ∧ Below W.heap.size W w'' := fun w' h => quietB h (kg w')
  clear kh kg
  refine wp_region_quietC (C := fun w' => Below W.heap.size W w') (Below.refl _ _).drew (by kernel_rfl) (by kernel_rfl) ?_
  refine wpQuiet_load 23 (.tmp 5) rfl ⟨g1, 0, none⟩ rfl (idv x) LX.out 32 rfl rfl ?_
  simp only [List.set_cons_succ, List.set_cons_zero]
  refine wpQuiet_load 22 (.tmp 7) rfl ⟨g2, 0, none⟩ rfl (idv x) LY.out 33 rfl rfl ?_
  simp only [List.set_cons_succ, List.set_cons_zero]
  repeat (go_big_quiet_step ((intro hb; first | rfl | exact k1 _ hb | exact k2 _ hb)))
  refine wpQuiet_load 23 (.tmp 2) rfl ⟨w.heap.size, 0, none⟩ rfl (idv id) LI.out 41 rfl rfl ?_
  simp only [List.set_cons_succ, List.set_cons_zero]
  repeat (go_big_quiet_step ((intro hb; first | rfl | exact k1 _ hb | exact k2 _ hb)))
  refine wpQuiet_load 23 (.tmp 2) rfl ⟨w.heap.size, 0, none⟩ rfl (idv id) LI.out 43 rfl rfl ?_
  simp only [List.set_cons_succ, List.set_cons_zero]
  repeat (go_big_quiet_step ((intro hb; first | rfl | exact k1 _ hb | exact k2 _ hb)))
  refine wpQuiet_load 23 (.tmp 9) rfl ⟨g3, 0, none⟩ rfl (idv id) LZ.out 48 rfl rfl ?_
  simp only [List.set_cons_succ, List.set_cons_zero]
  refine wpQuiet_load 23 (.tmp 2) rfl ⟨w.heap.size, 0, none⟩ rfl (idv id) LI.out 49 rfl rfl ?_
  simp only [List.set_cons_succ, List.set_cons_zero]
  repeat (go_big_quiet_step ((intro hb; first | rfl | exact k1 _ hb | exact k2 _ hb)))
  refine wpQuiet_nil ?_
  intro w' hw'
  go_wp2
  go_ret
  exact ⟨rfl, D.trans (hw'.mono D.size)⟩
end Go.Proofs.Ytjiiploleinobaa
