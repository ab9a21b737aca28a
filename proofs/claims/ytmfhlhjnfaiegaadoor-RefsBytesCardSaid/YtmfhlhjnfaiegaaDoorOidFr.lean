/- An argument of the type of names is twenty bytes. No condition. -/
import Derived.Test.YtmfhlhjnfaiegaaDoorOidB
import Derived.WideKeyArr2
import Derived.ChangeSame
namespace Go.Proofs.YtmfhlhjnfaiegaaDoor
open Go.RowKit
set_option maxRecDepth 100000
set_option maxHeartbeats 4000000
set_option linter.unusedVariables false
section
variable {H : Type} {enc : TypeId × Value → H} {P : Program} {e : TypeId} {W : World} {base : Nat} {sp : Nat → Bool} {held : Bool}
theorem cells_of_mapM (he : P.underlying e = some (.int .u8)) {m : Nat} {cs : List Value} {c : Nat} : ∀ (L : List Nat) (xs : List (DataW H × List MemPlace)),
    L.mapM (fun i => DataW.trod enc P W base sp held m e ((cs.drop (i * c)).take c)) = some xs → ∀ i ∈ L, ∃ a : Int, (cs.drop (i * c)).take c = [.int .u8 a] ∧ (Lit.int .u8 a).wf = true
  | [], xs, h => by simp
  | i :: L, xs, h => by
    rw [List.mapM_cons] at h
    simp only [bind, Option.bind_eq_some_iff, pure, Option.some.injEq] at h
    obtain ⟨y, hy, ys, hys, rfl⟩ := h
    have ih := cells_of_mapM he L ys hys
    obtain ⟨a, ea, rfl, wa⟩ := DataW.trod_int he hy
    intro j hj
    rcases List.mem_cons.1 hj with rfl | hj
    · exact ⟨a, ea, wa⟩
    · exact ih j hj
end
theorem open_id {H : Type} {enc : TypeId × Value → H} {W : World} {base b0 : Nat} {sp : Nat → Bool} {held : Bool} {r : Reach} {T : TypeId} (hT : Tryd.prog.underlying T = some (.array 20 5)) (hs : (Tryd.prog.info? T).map (·.size) = some 20) {v : Value} {d : DataW H} {ps : List MemPlace}
    (hval : Value.okWide Tryd.prog W r b0 T v) (h : DataW.Trod enc Tryd.prog W base sp held T v d ps) : ∃ l : List UInt8, v = idv l ∧ l.length = 20 := by
  have hc1 : Tryd.prog.cellsOf 5 = 1 := by kernel_rfl
  have hcT : Tryd.prog.cellsOf T = 20 := by
    unfold Program.cellsOf
    cases hq : Tryd.prog.info? T with
    | none => simp [hq] at hs
    | some i => simpa [hq] using hs
  simp only [Value.okWide, hT] at hval
  obtain ⟨cs, rfl, h2, _⟩ := hval
  rw [hcT] at h2
  obtain ⟨fuel, hf⟩ := h
  cases fuel with
  | zero => simp [DataW.trod] at hf
  | succ m =>
    rw [DataW.trod_step] at hf
    unfold DataW.trodStep at hf
    simp only [hT, Value.cells] at hf
    rw [if_pos (by rw [hcT]; simpa using h2)] at hf
    simp only [Option.map_eq_some_iff] at hf
    obtain ⟨ys, hy, e1⟩ := hf
    have hall := cells_of_mapM Tryd.underlying5 _ ys hy
    rw [hc1] at hall
    refine ⟨cs.toList.map fun v => match v with | .int _ a => UInt8.ofNat a.toNat | _ => 0, ?_, by simpa using h2⟩
    congr 1
    apply Array.ext'
    apply List.ext_getElem
    · simp
    intro i h1 h3
    obtain ⟨a, ha, wa⟩ := hall i (by simp at h1; simp; omega)
    have hi : i < cs.toList.length := h1
    have hg : cs.toList[i] = .int .u8 a := by
      have : (cs.toList.drop (i * 1)).take 1 = [cs.toList[i]] := by
        rw [Nat.mul_one, List.drop_eq_getElem_cons hi]; rfl
      rw [this] at ha
      simpa using ha
    have hb := bounds_u8 wa
    simp only [bvs, List.getElem_map, bv]
    rw [hg]
    simp
    omega
end Go.Proofs.YtmfhlhjnfaiegaaDoor
