/- Sort of one name twice tells one name. No condition. -/
import Derived.Test.YtjiiploleinobaaOidF
import Derived.Lib.SliceRun
namespace Go.Proofs.Ytjiiploleinobaa
open Go.RowKit
set_option maxRecDepth 100000
set_option maxHeartbeats 4000000
set_option linter.unusedVariables false
theorem Try.info23 : (Try.prog.info? 23).map (fun i => (i.zero, i.size, i.bytes)) = some (some (idv zs20), 20, 20) := by kernel_rfl
theorem clone2_any (A : Addr) (c : Nat) (xs : List Value) (w : World) (hl : xs.length = 40) (h1 : ∀ u ∈ xs, u.oneCell' = true) (hA : Sl w (some A) xs) :
    Calls Try.prog 30 #[.slice (some A) 2 c] w fun e w' => ∃ v, e = .returned v ∧ Win w' w.heap.size 23 20 v 2 xs ∧ Below w.heap.size w w' := by
  have hnil := Lib.run_eql_slice_nil (P := Try.prog) (t := 36) (e := 23) (a := some A) (n := 2) (c := c) (n' := 0) (c' := 0) (h := Try.underlying36)
  have hbE : Below w.heap.size w (w.alloc (.cells #[] 23)) := (Below.refl _ _).alloc (Nat.le_refl _) _
  have hE : Win (w.alloc (.cells #[] 23)) w.heap.size 23 20 (.slice (some ⟨w.heap.size, 0, none⟩) 0 0) 0 [] := ⟨by simp, .inr ⟨w.heap.size, 0, 0, #[], rfl, Nat.le_refl _, heap_alloc_new _ _, by omega, by unfold maxLen; omega, by simp, by simp⟩⟩
  have HE := Lib.hid hE; have HA := Lib.hid hA
  clear hE hA
  go_enter Try.func30, Try.ntmps30
  go_wp2_with (at_builtin
               refine wpList_appW rfl (.tmp 5) (.tmp 6) 36 36 rfl w.heap.size 23 (idv zs20) 20 20 Try.underlying36 Try.info23 (by show (bvs zs20).toArray.size = 20; simp [zs20_len]) (by decide) _ 0 [] rfl HE.out (.slice (some A) 2 c) 2 xs rfl (srcOf Try.underlying36 (by decide) (by omega) (Sl.below HA.out hbE) h1) (by omega) (by unfold maxLen; omega) (by simp) ?_
               intro v2 w2 hw2 hk2 ho2)
  go_ret
  exact ⟨v2, rfl, by simpa using hw2, hbE.trans (hk2.toBelow (by simp) (fun g hg e => by injection e with e; exact absurd (show w.heap.size = g from e) (by omega)))⟩
theorem load_id (id : List UInt8) (hid : id.length = 20) (ad : Addr) (w : World) (h : Sl w (some ad) (bvs id)) : (loadVar 23 ad).run Try.prog w = .ok (idv id) w := by
  have hl : (loadCells ad (bvs id).length).run Try.prog w = .ok (bvs id).toArray w :=
    run_loadCells_list (P := Try.prog) w ad (bvs id) (fun j v hv => by obtain ⟨ad', e, hc⟩ := h j v hv; injection e with e; subst e; exact hc)
  rw [bvs_length, hid] at hl
  have hagg : (isAgg 23).run Try.prog w = .ok true w := by kernel_rfl
  have hsz : (sizeOf 23).run Try.prog w = .ok 20 w := by kernel_rfl
  simp [loadVar, Sem.run_bind, hagg, hsz, hl]
theorem wpStill_load_agg {P : Program} {ops : Array Oper} {w : World} {Q : Act → Prop} {a : Act} {o : Oper} {rest : List Oper} (hgd : o.guard = none) (ty : TypeId) (x : Operand) (ho : o.op = .load ty x)
    (ad : Addr) (hx : a.eval x = .pointer (some ad)) (v : Value) (hl : (loadVar ty ad).run P w = .ok v w)
    (h : wpStill P ops w Q rest (a.put o.dst v)) : wpStill P ops w Q (o :: rest) a := by
  refine wpStill_step fun K hK => ?_
  have hw : Region.wanted o (yielded ops a.tmps) = true := by simp [Region.wanted, hgd]
  rw [if_pos hw]
  unfold Oper.still execOp
  simp only [ho, hx, Instr.loadAt, Instr.sureAddr, Sem.run_bind, Sem.run_pure, Result.andThen_ok, hl]
  exact ⟨rfl, hK _ h⟩
theorem cmp_self : ∀ l : List UInt8, Lib.compareBytes l l = 0
  | [] => rfl
  | a :: l => by simp [Lib.compareBytes, cmp_self l]
theorem less81 (id : List UInt8) (hid : id.length = 20) (g off cap : Nat) (w : World) (hcap : 2 ≤ cap) (h0 : Sl w (some ⟨g, off, none⟩) (bvs id)) (h1 : Sl w (some ⟨g, off + 20, none⟩) (bvs id)) :
    Calls Try.prog 81 #[.slice (some ⟨g, off, none⟩) 2 cap, .int .i64 1, .int .i64 0] w fun e w' => e = .returned (.bool false) ∧ Below w.heap.size w w' := by
  have f0 : (loadVar 23 ⟨g, off, none⟩).run Try.prog w.drew = .ok (idv id) w.drew := load_id id hid _ _ (fun j v h => h0 j v h)
  have f1 : (loadVar 23 ⟨g, off + 20, none⟩).run Try.prog w.drew = .ok (idv id) w.drew := load_id id hid _ _ (fun j v h => h1 j v h)
  have kl := less_any id id w.drew hid hid
  rw [cmp_self] at kl
  go_enter Try.func81, Try.ntmps81
  go_wp2
  go_still_tail 8, (by kernel_rfl)
  refine wpStill_load_agg rfl 23 (.tmp 9) rfl _ rfl _ f1 ?_
  repeat still_step
  refine wpStill_load_agg rfl 23 (.tmp 13) rfl _ rfl _ f0 ?_
  repeat still_step
  refine wpStill_nil ?_
  change wpList _ _ _ _ _ w.drew
  go_wp2_with (go_at_call 13; (with_reducible refine kl.mono ?_); rintro e w' ⟨rfl, hb⟩)
  go_ret
  exact ⟨rfl, (Below.refl _ _).drew.trans hb⟩
end Go.Proofs.Ytjiiploleinobaa
