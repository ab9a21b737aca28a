/- slices.Delete of the last ref of a row of the call's own. Conditions: twenty bytes each, at most 256 rows. -/
import Derived.Test.YtmfhlhjnfaiegaaDoorRow
import Derived.Laws.IdiomCopy
namespace Go.Proofs.YtmfhlhjnfaiegaaDoor
open Go.RowKit
set_option maxRecDepth 100000
set_option maxHeartbeats 1000000
set_option linter.unusedVariables false
theorem run_app0 (g off n cap : Nat) (A2 : Option Addr) (c2 : Nat) (h : n ≤ cap) (w : World) :
    (Builtin.append_ #[22, 22] 22 #[.slice (some ⟨g, off, none⟩) n cap, .slice A2 0 c2]).run Tryd.prog w = .ok (.slice (some ⟨g, off, none⟩) n cap) w := by
  have hs : Src Tryd.prog 21 22 (.slice A2 0 c2) 0 [] w := srcOf Tryd.underlying22 (by decide) rfl (Sl.nil _ _) (by simp)
  obtain ⟨i, hi, hz, hsize, hby⟩ := info_parts infoRef
  have hc := hs.cells
  rw [← hsize] at hc
  simp [Builtin.append_, run_underlying Tryd.underlying22, sizeOf, typeInfo, hi, hs.len, h, hc, Addr.add_lit]
  rfl
theorem kp_setCells (g : Nat) : ∀ (vs : List Value) (o : Nat) (w : World), Kp (fun k => k = g) w (w.setCells g o vs)
  | [], o, w => Kp.refl _ _
  | v :: r, o, w => by
    rw [World.setCells]
    exact Kp.trans ((Kp.refl (fun k => k = g) w).setCell (p := ⟨g, o, none⟩) (.inl rfl) v) (kp_setCells g r (o + 1) _)
theorem Win.tail {B e size n g off c : Nat} {xs : List Value} : ∀ (vs : List Value) (o : Nat) (w : World), Win w B e size (.slice (some ⟨g, off, none⟩) n c) n xs → off + n * size ≤ o → Win (w.setCells g o vs) B e size (.slice (some ⟨g, off, none⟩) n c) n xs
  | [], o, w, h, _ => h
  | v :: r, o, w, h, ho => by
    rw [World.setCells]
    have := Win.set h (o - off) v
    rw [List.set_eq_of_length_le (by rw [h.1]; omega), show off + (o - off) = o by omega] at this
    exact Win.tail r (o + 1) _ this (by omega)
theorem zero_oneR : ∀ k < 21, ((rfv ([], zs20)).cells[k]!).oneCell' = true := by decide +kernel
theorem run_clearR (g o c m : Nat) (w : World) (ht : ∀ j, j < m * 21 → (w.cell? ⟨g, o + j, none⟩).isSome = true ∧ w.frozen? ⟨g, o + j, none⟩ = false) :
    ∃ w' vs, (Builtin.clear_ #[22] 0 #[.slice (some ⟨g, o, none⟩) m c]).run Tryd.prog w = .ok (.tuple #[]) w' ∧ w' = w.setCells g o vs := by
  have hv : ∀ w : World, (zeroValue 47).run Tryd.prog w = .ok (rfv ([], zs20)) w := fun w => by kernel_rfl
  cases m with
  | zero => exact ⟨w, [], by simp [Builtin.clear_, run_underlying Tryd.underlying22], rfl⟩
  | succ m =>
    have hsz : (rfv ([], zs20)).cells.size = 21 := by kernel_rfl
    have hl : (Builtin.zeroCells (rfv ([], zs20)).cells (m + 1)).toList.length = (m + 1) * 21 := by simp [Builtin.zeroCells, hsz]
    have hst := run_storeCells_cells (P := Tryd.prog) g o (Builtin.zeroCells (rfv ([], zs20)).cells (m + 1)).toList 0 w (fun j hj => by simpa using (ht j (by omega)).1) (fun j hj => by simpa using (ht j (by omega)).2)
      (fun v hv => by
        simp only [Builtin.zeroCells, Array.toList_map, List.mem_map] at hv
        obtain ⟨i, _, rfl⟩ := hv
        rw [hsz]
        exact zero_oneR _ (Nat.mod_lt _ (by omega)))
    refine ⟨_, (Builtin.zeroCells (rfv ([], zs20)).cells (m + 1)).toList, ?_, rfl⟩
    simp [Builtin.clear_, run_underlying Tryd.underlying22, hv, hst]
theorem wpList_app0 {w : World} {ops : Array Oper} {rest : List Oper} {o : Oper} {a : Act} {Q : Exit → Act → World → Prop} (hgd : o.guard = none) (s x : Operand)
    (ho : o.op = .call { callee := .builtin .append, args := #[s, x], argTypes := #[22, 22] }) (hty : o.type = 22)
    (g off n cap : Nat) (hn : n ≤ cap) (A2 : Option Addr) (c2 : Nat) (hs : a.eval s = .slice (some ⟨g, off, none⟩) n cap) (hx : a.eval x = .slice A2 0 c2)
    (h : wpList Tryd.prog ops Q rest (a.put o.dst (.slice (some ⟨g, off, none⟩) n cap)) w) : wpList Tryd.prog ops Q (o :: rest) a w := by
  refine wpList_plain hgd fun K hK => ?_
  have hrun := run_app0 g off n cap A2 c2 hn w
  unfold Oper.wp
  simp [execOp, ho, hty, resolve, invoke, builtin, hs, hx, hrun, Result.andThen]
  exact hK _ _ h
theorem delR (B : Nat) (A : Option Addr) (c n : Nat) (l : List Rf) (x : Rf) (w : World) (hn : n = l.length + 1) (hl : l.length ≤ 256) (h20 : Rf20 (l ++ [x])) (hw : WinR w B (.slice A n c) (l ++ [x])) (hB : B ≤ w.heap.size) :
    Calls Tryd.prog 33 #[.slice A n c, .int .i64 l.length, .int .i64 n] w fun e w' => ∃ c', e = .returned (.slice A l.length c') ∧ l.length ≤ c' ∧ WinR w' B (.slice A l.length c') l ∧ Below B w w' := by
  have hlen : (l ++ [x]).length = n := by simp [hn]
  unfold WinR at hw
  rw [hlen] at hw
  obtain ⟨g, off, cap, hv, hBg, hgl, hnc, hcm⟩ := hw.form (by omega)
  injection hv with e1 e2 e3
  subst e1 e3
  obtain ⟨i, hi⟩ : ∃ i, i = l.length := ⟨_, rfl⟩
  have hwi : Win w B 47 21 (.slice (some ⟨g, off, none⟩) i c) i (rfc l) := by
    have := hw.take (k := i) (by omega)
    rwa [rfc_app, List.take_left' (by rw [rfc_len (fun y hy => h20 y (by simp [hy])), hi])] at this
  have hth : ∀ j, j < 1 * 21 → (w.cell? ⟨g, off + i * 21 + j, none⟩).isSome = true ∧ w.frozen? ⟨g, off + i * 21 + j, none⟩ = false := fun j hj => by
    refine ⟨?_, hw.free _⟩
    have := hw.cellAt (i * 21 + j) (by omega)
    rw [Nat.add_assoc, this]
    rw [List.getElem?_eq_getElem (by rw [hw.1]; omega)]; rfl
  have hres : ∀ k, ∃ W2, (Builtin.clear_ #[22] 0 #[.slice (some ⟨g, off + i * 21, none⟩) 1 (c - i)]).run Tryd.prog (w.drewN k) = .ok (.tuple #[]) W2 ∧ WinR W2 B (.slice (some ⟨g, off, none⟩) i c) l ∧ Below B w W2 := fun k => by
    obtain ⟨W2, vs, hclr, hW2⟩ := run_clearR g (off + i * 21) (c - i) 1 (w.drewN k) hth
    refine ⟨W2, hclr, ?_, ?_⟩
    · rw [hW2, WinR, ← hi]; exact Win.tail vs _ (w.drewN k) hwi (Nat.le_refl _)
    · rw [hW2]; exact (Kp.trans ((Kp.refl (fun k => k = g) w).drewN k) (kp_setCells g vs _ (w.drewN k))).toBelow hB (fun k hk e => by omega)
  have s3 : ∀ w, (Instr.slice 22 (.slice (some ⟨g, off, none⟩) n c) (some (.int .i64 (i : Int))) (some (.int .i64 (n : Int))) (some (.int .i64 (n : Int)))).run Tryd.prog w = .ok (sliced (some ⟨g, off, none⟩) i n n 21) w := fun w => by
    rw [run_slice_lhm (P := Tryd.prog) (t := 22) (ht := Tryd.underlying22) (kl := .i64) (kh := .i64) (km := .i64) (l := (i : Int)) (h := (n : Int)) (m := (n : Int)) (h0 := by omega) (h1 := by omega) (h2 := by omega) (h3 := by omega), sizeRef]; rfl
  have st := slice_toR (some ⟨g, off, none⟩) n c i (by omega)
  have sf := slice_fromR (some ⟨g, off, none⟩) n c n (Nat.le_refl _)
  rw [Nat.sub_self] at sf
  have sl : ∀ w, (Instr.slice 22 (.slice (some ⟨g, off, none⟩) i c) (some (.int .i64 (i : Int))) (some (.int .i64 (n : Int))) none).run Tryd.prog w = .ok (.slice (some ⟨g, off + i * 21, none⟩) 1 (c - i)) w := fun w => by
    rw [run_slice_lh (P := Tryd.prog) (t := 22) (ht := Tryd.underlying22) (kl := .i64) (kh := .i64) (l := (i : Int)) (h := (n : Int)) (h0 := by omega) (h1 := by omega) (h2 := by omega), sizeRef]
    have h1 : n - i = 1 := by omega
    have h2 : ¬ c = i := by omega
    simp [Result.andThen, sliced, h1, h2, add_plain]
  have hne : ((i : Int) == (n : Int)) = false := beq_false_of_ne (by omega)
  obtain ⟨v3, hv3⟩ : ∃ v3, v3 = sliced (some ⟨g, off, none⟩) i n n 21 := ⟨_, rfl⟩
  obtain ⟨A2, hA2⟩ : ∃ A2, A2 = cutA (some ⟨g, off, none⟩) c n 21 := ⟨_, rfl⟩
  rw [← hv3] at s3
  rw [← hA2] at sf
  have hic : i ≤ c := by omega
  rw [← hi]
  have HRES := Lib.hid hres
  clear hres hv3 hA2 hth hwi hw hlen hn hi h20 hl
  go_enter Tryd.func33, Tryd.ntmps33
  go_upto_region 5 with fail
  refine wp_region_quiet_tail 6 (C := fun w' => ∃ k, w' = w.drewN k) ⟨1, rfl⟩ (by kernel_rfl) (by kernel_rfl) ?_
  simp only [List.take_succ_cons, List.take_zero, List.drop_succ_cons, List.drop_zero]
  repeat (go_big_quiet_step (rfl))
  refine wpQuiet_nil ?_
  intro w' hw'
  obtain ⟨k, rfl⟩ := hw'
  obtain ⟨W2, hclr, hw2, hb2⟩ := HRES.out k
  have HW2 := Lib.hid hw2; have HB2 := Lib.hid hb2
  clear hw2 hb2
  go_wp2_with (at_builtin; refine wpList_app0 rfl (.tmp 22) (.tmp 25) rfl rfl g off i c hic A2 (c - n) rfl rfl ?_)
  go_ret
  exact ⟨c, rfl, hic, HW2.out, HB2.out⟩
end Go.Proofs.YtmfhlhjnfaiegaaDoor
