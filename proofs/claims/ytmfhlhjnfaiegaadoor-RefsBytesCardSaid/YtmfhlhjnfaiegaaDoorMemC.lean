/- Words on memory, third part: loads of several cells in every kind of region, a new row that is filled. No condition. -/
import Derived.Test.YtmfhlhjnfaiegaaDoorMemB
import Derived.StillTailTactics
import Derived.BigQuiet
import Derived.Deep.DeepFit
import Derived.Deep.DeepMust
import Derived.Deep.RegionLaw
import Derived.Deep.CutBlock
namespace Go.Proofs.YtmfhlhjnfaiegaaDoor
open Go.RowKit
set_option maxRecDepth 100000
set_option maxHeartbeats 4000000
set_option linter.unusedVariables false
theorem wpList_loadG {P : Program} {w : World} {ops : Array Oper} {rest : List Oper} {o : Oper} {a : Act} {Q : Exit → Act → World → Prop} (ty : TypeId) (x : Operand) (ho : o.op = .load ty x)
    (ad : Addr) (hx : a.eval x = .pointer (some ad)) (v : Value) (hl : (loadVar ty ad).run P w = .ok v w) (hw : Region.wanted o (yielded ops a.tmps) = true)
    (h : wpList P ops Q rest (a.put o.dst v) w) : wpList P ops Q (o :: rest) a w := by
  refine wpList_step fun K hK => ?_
  rw [if_pos hw]
  unfold Oper.wp execOp
  simp only [ho, hx, Instr.loadAt, Instr.sureAddr, Sem.run_bind, Sem.run_pure, Result.andThen_ok, hl]
  exact hK _ _ h
/-- a load in a region that draws its order, in every world of the class -/
theorem wpQuiet_load {P : Program} {C : World → Prop} {ops : Array Oper} {rest : List Oper} {o : Oper} {Q : Act → Prop} {l : List Value} {df : List Deferred} (ty : TypeId) (x : Operand) (ho : o.op = .load ty x)
    (ad : Addr) (hx : Act.eval ⟨l.toArray, df⟩ x = .pointer (some ad)) (v : Value) (hl : ∀ w, C w → (loadVar ty ad).run P w = .ok v w) (d : Nat) (hd : o.dst = some d) (hw : Region.wanted o (yielded ops l.toArray) = true)
    (h : wpQuiet P ops C Q rest ⟨(l.set d v).toArray, df⟩) : wpQuiet P ops C Q (o :: rest) ⟨l.toArray, df⟩ := by
  refine wpQuiet_step fun K hK => ?_
  rw [if_pos hw]
  refine ⟨v, fun w hC => ?_, ?_⟩
  · unfold Oper.quietAt execOp
    simp only [ho, hx, Instr.loadAt, Instr.sureAddr, Sem.run_bind, Sem.run_pure, Result.andThen_ok, hl w hC]
    exact ⟨rfl, rfl⟩
  · have : (Act.put ⟨l.toArray, df⟩ o.dst v) = ⟨(l.set d v).toArray, df⟩ := by
      simp [Act.put, hd]
    rw [this]
    exact hK _ h
theorem wpStill_load_agg {P : Program} {ops : Array Oper} {w : World} {Q : Act → Prop} {a : Act} {o : Oper} {rest : List Oper} (hgd : o.guard = none) (ty : TypeId) (x : Operand) (ho : o.op = .load ty x)
    (ad : Addr) (hx : a.eval x = .pointer (some ad)) (v : Value) (hl : (loadVar ty ad).run P w = .ok v w)
    (h : wpStill P ops w Q rest (a.put o.dst v)) : wpStill P ops w Q (o :: rest) a := by
  refine wpStill_step fun K hK => ?_
  have hw : Region.wanted o (yielded ops a.tmps) = true := by simp [Region.wanted, hgd]
  rw [if_pos hw]
  unfold Oper.still execOp
  simp only [ho, hx, Instr.loadAt, Instr.sureAddr, Sem.run_bind, Sem.run_pure, Result.andThen_ok, hl]
  exact ⟨rfl, hK _ h⟩
theorem results_cell_tmp1 {P : Program} {fn : Func} {p t : Tmp} {ty : TypeId} (h : fn.results = #[.cell p ty, .tmp t]) (tmps : Array Value) (w : World) (g : Nat) (T : TypeId) (cs : Array Value) (fr : Nat × Nat) (d : TypeDesc)
    (hp : tmps.getD p undef = .pointer (some ⟨g, 0, none⟩)) (hg : w.heap[g]? = some (.cells cs T fr))
    (hu : P.underlying ty = some d) (hd : (match d with | .struct _ | .array _ _ => true | _ => false) = true) (hi : (P.info? ty).map (·.size) = some cs.size) :
    (results fn tmps).run P w = .ok (.tuple #[.agg cs, tmps.getD t undef]) w := by
  have hp' : tmps[p]?.getD undef = .pointer (some ⟨g, 0, none⟩) := by simpa using hp
  simp [results, h, hp', asAddr, run_loadVar_row w g T ty cs fr d hg hu hd hi]
theorem below_setRow {B : Nat} {w w' : World} (h : Below B w w') (b : Nat) (hb : B ≤ b) (c : Array Value) : Below B w (w'.setRow b c) :=
  ⟨h.os, h.tape, h.output, by simpa using h.size, fun i hi => (setRow_other w' b i _ (by omega)).trans (h.block i hi)⟩
theorem heap_setCell_ne (w : World) (p : Addr) (u : Value) (k : Nat) (h : k ≠ p.block) : (w.setCell p u).heap[k]? = w.heap[k]? := Below.heap_setCell w p u k h
theorem new_set (w : World) (T : Nat) (c d : Array Value) : ((w.alloc (.cells c T)).setRow w.heap.size d).heap[w.heap.size]? = some (.cells d T (0, 0)) ∧ Below w.heap.size w ((w.alloc (.cells c T)).setRow w.heap.size d) :=
  ⟨setRow_heap _ _ _ _ _ _ (heap_alloc_new _ _), below_setRow ((Below.refl _ _).alloc (Nat.le_refl _) _) _ (Nat.le_refl _) _⟩
end Go.Proofs.YtmfhlhjnfaiegaaDoor
