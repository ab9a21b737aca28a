/- The reference's Put: a name into a rising row. Conditions: twenty bytes each, fewer than 255 names. -/
import Derived.Test.YtjiiploleinobaaRefC
namespace Go.Proofs.Ytjiiploleinobaa
open Go.RowKit
set_option maxRecDepth 100000
set_option maxHeartbeats 4000000
set_option linter.unusedVariables false
theorem wp_val {P : Program} {o : Oper} {a : Act} {w w' : World} {v : Value} {K : Act → World → Prop} {Q : Exit → Act → World → Prop} (h : (execOp a.eval o).run P w = .ok (.value v) w') (hK : K (a.put o.dst v) w') : Oper.wp P o a w K Q := by
  unfold Oper.wp
  rw [h]
  exact hK
theorem ready_val {P : Program} {md : Region.Mode} {ops : Array Oper} {Q : Exit → Act → World → Prop} {fuel : Nat} {listed : Array Bool} {a : Act} {w w' : World} {i : Nat} {o : Oper} {rs : List Nat} (v : Value) (ho : ops[i]? = some o) (hgd : o.guard = none)
    (hrun : (execOp a.eval o).run P w = .ok (.value v) w') (hs : AllReady P md ops Q fuel listed a w rs)
    (h : wpAny P md ops Q fuel (listed.setIfInBounds i true) (a.put o.dst v) w') : AllReady P md ops Q fuel listed a w (i :: rs) :=
  AllReady.cons ho (fun K hK => step_if (by simp [Region.wanted, hgd]) (wp_val hrun (hK _ _ h))) hs
theorem run_empty38 {o : Oper} {ev : Operand → Value} {w : World} (ho : o.op = .buildSlice 38 0 #[]) : (execOp ev o).run Try.prog w = .ok (.value (.slice (some ⟨w.heap.size, 0, none⟩) 0 0)) (w.alloc (.cells #[] 22)) := by
  have h : (Instr.buildSlice 38 0 #[]).run Try.prog w = .ok (.slice (some ⟨w.heap.size, 0, none⟩) 0 0) (w.alloc (.cells #[] 22)) := by kernel_rfl
  unfold execOp
  simp [ho, h]
theorem fill_one (x : List UInt8) (hx : x.length = 20) : Instr.fill (fun i => some (i * 20, 20)) (bvs zs20).toArray [(0, idv x)] = some (bvs x).toArray := by
  have fl := fold_lit x hx
  have h1 : (idv x).cells.size = 20 := by show (bvs x).toArray.size = 20; simp [hx]
  have h2 : (bvs zs20).toArray.size = 20 := by simp [zs20_len]
  have h3 : (idv x).cells = (bvs x).toArray := rfl
  unfold Instr.fill
  simp only [h2, h3]
  rw [if_neg (by simp [hx])]
  unfold Instr.fill
  congr 1
  have : (bvs x).toArray.zipIdx = (bvs x).zipIdx.toArray := by simp
  rw [this]
  simp only [Nat.zero_mul, Nat.zero_add, List.foldl_toArray]
  exact fl
theorem run_one38 {o : Oper} {ev : Operand → Value} {w : World} (t : Nat) (ho : o.op = .buildSlice 38 1 #[(0, .tmp t)]) (x : List UInt8) (hx : x.length = 20) (hv : ev (.tmp t) = idv x) : (execOp ev o).run Try.prog w = .ok (.value (.slice (some ⟨w.heap.size, 0, none⟩) 1 1)) (w.alloc (.cells (bvs x).toArray 22)) := by
  obtain ⟨z, hzz⟩ : ∃ z, z = idv zs20 := ⟨_, rfl⟩
  have hs : (sizeOf 22).run Try.prog w = .ok 20 w := by kernel_rfl
  have hz : (zeroValue 22).run Try.prog w = .ok z w := by rw [hzz]; kernel_rfl
  have hmap : (Array.range (1 * 20)).map (fun i => z.cells[i % z.cells.size]!) = (bvs zs20).toArray := by rw [hzz]; kernel_rfl
  have hf := fill_one x hx
  have h : (Instr.buildSlice 38 1 #[(0, idv x)]).run Try.prog w = .ok (.slice (some ⟨w.heap.size, 0, none⟩) 1 1) (w.alloc (.cells (bvs x).toArray 22)) := by
    unfold Instr.buildSlice
    simp only [Sem.run_bind, run_underlying Try.underlying38, Result.andThen_ok, hs]
    rw [if_neg (by omega), if_neg (by omega)]
    simp only [Sem.run_bind, Sem.run_pure, Result.andThen_ok, hz, hmap, hf]
    simp [newRow]
  unfold execOp
  simp [ho, hv, h]
end Go.Proofs.Ytjiiploleinobaa
