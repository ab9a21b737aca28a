/- A text as a new row of bytes, one of which is set. No condition. -/
import Derived.Test.YtjiiploleinobaaOidK
import Derived.Lib.ConvBytes
namespace Go.Proofs.Ytjiiploleinobaa
open Go.RowKit
set_option maxRecDepth 100000
set_option maxHeartbeats 4000000
set_option linter.unusedVariables false
theorem bytes_new (s : List UInt8) (w : World) : ∃ W' c, (convert 9 34 (.string (bstr s))).run Try.prog w = .ok (.slice (some ⟨w.heap.size, 0, none⟩) s.length c) W' ∧ Below w.heap.size w W' ∧
    Bs W' (some ⟨w.heap.size, 0, none⟩) s ∧ (∀ k, k < s.length → W'.frozen? ⟨w.heap.size, k, none⟩ = false) ∧
    (∀ k x, k < s.length → Bs (W'.setCell ⟨w.heap.size, k, none⟩ (.int .u8 (x.toNat : Int))) (some ⟨w.heap.size, 0, none⟩) (s.set k x)) := by
  have hr := Lib.run_convert_string_bytes (P := Try.prog) w 9 34 5 (bstr s) Try.underlying9 Try.underlying34 Try.underlying5
  have hsz : (bstr s).size = s.length := by show s.toArray.size = _; simp
  have hnew := Lib.bytesWorld_at_new w 5 (bstr s)
  have hb : Below w.heap.size w (Lib.bytesWorld w 5 (bstr s)) := ⟨rfl, rfl, rfl, by rw [Lib.bytesWorld_size]; omega, fun i hi => Lib.bytesWorld_at_old w 5 (bstr s) i hi⟩
  have hcs : ∀ j v, (bvs s)[j]? = some v → (Lib.bytesCells w 5 (bstr s))[0 + j]? = some v := fun j v hj => by
    have hlt : j < s.length := by
      rcases Nat.lt_or_ge j s.length with h | h
      · exact h
      · rw [List.getElem?_eq_none (by simpa using h)] at hj; cases hj
    simp only [bvs, bv, List.getElem?_map, List.getElem?_eq_getElem hlt, Option.map_some] at hj
    injection hj with hj
    subst hj
    simp [Lib.bytesCells, Array.getElem?_append, hlt]
  have hle : s.length ≤ (Lib.bytesCells w 5 (bstr s)).size := by simp [Lib.bytesCells, hsz]
  rw [hsz] at hr
  refine ⟨_, _, hr, hb, Sl.of_block hnew hcs, fun k hk => ?_, fun k x hk => ?_⟩
  · simp only [World.frozen?, hnew]
    simp
    omega
  · have h2 := setRow_heap (Lib.bytesWorld w 5 (bstr s)) w.heap.size _ ((Lib.bytesCells w 5 (bstr s)).setIfInBounds k (.int .u8 (x.toNat : Int))) 5 _ hnew
    rw [← setCell_eq_setRow _ _ k _ _ _ _ hnew] at h2
    refine Sl.of_block h2 fun j v hj => ?_
    by_cases e : j = k
    · subst e
      simp only [bvs, bv, List.map_set] at hj
      rw [List.getElem?_set_self (by simpa using hk)] at hj
      rw [Nat.zero_add, Array.getElem?_setIfInBounds_self_of_lt (by omega)]
      exact hj
    · have : (bvs s)[j]? = some v := by
        simp only [bvs, List.map_set] at hj
        rwa [List.getElem?_set_ne (Ne.symm e)] at hj
      have := hcs j v this
      rw [Nat.zero_add] at this ⊢
      rw [Array.getElem?_setIfInBounds_ne (Ne.symm e)]
      exact this
end Go.Proofs.Ytjiiploleinobaa
