/- Decode's pure laws: what a line takes. No condition. -/
import Derived.Test.YtmfhlhjnfaiegaaDoorNxt
namespace Go.Proofs.YtmfhlhjnfaiegaaDoor
set_option linter.unusedVariables false
theorem cut_len {c : UInt8} {s : List UInt8} (h : (Lib.cut s [c]).2.2 = true) : (Lib.cut s [c]).1.length + 1 + (Lib.cut s [c]).2.1.length = s.length := by
  by_cases hm : c ∈ s
  · obtain ⟨a, b, rfl, hn⟩ := List.eq_append_cons_of_mem hm
    rw [cut_yes b hn]
    simp; omega
  · rw [cut_no hm] at h; cases h
theorem cut_le {c : UInt8} (s : List UInt8) : (Lib.cut s [c]).1.length ≤ s.length := by
  by_cases hm : c ∈ s
  · obtain ⟨a, b, rfl, hn⟩ := List.eq_append_cons_of_mem hm
    rw [cut_yes b hn]
    simp
  · rw [cut_no hm]; exact Nat.le_refl _
theorem parseI_40 {t : List UInt8} (h : (parseI t).2 = 0) : t.length = 40 := by
  by_cases hc : t.length = 40 ∧ allHex t
  · exact hc.1
  · unfold parseI at h
    rw [if_neg hc] at h
    cases h
theorem lineR_some {t : List UInt8} {x : Rf} (h : lineR t = some x) : x.1.length ≤ t.length ∧ x.2.length = 20 ∧ 41 ≤ t.length ∧ (Lib.cut t [32]).2.2 = true ∧ (parseI (Lib.cut t [32]).1).2 = 0 ∧ x = ((Lib.cut t [32]).2.1, (parseI (Lib.cut t [32]).1).1) := by
  unfold lineR at h
  split at h
  · rename_i h'
    injection h with h
    subst h
    have h1 := cut_len h'.1
    have h2 := parseI_40 h'.2
    exact ⟨by show (Lib.cut t [32]).2.1.length ≤ _; omega, parseI_len _, by omega, h'.1, h'.2, rfl⟩
  · cases h
theorem lineR_none {t : List UInt8} (h : lineR t = none) : (Lib.cut t [32]).2.2 = false ∨ ((Lib.cut t [32]).2.2 = true ∧ (parseI (Lib.cut t [32]).1).2 ≠ 0) := by
  unfold lineR at h
  split at h
  · cases h
  · rename_i h'
    cases hq : (Lib.cut t [32]).2.2 with
    | false => exact .inl rfl
    | true => exact .inr ⟨rfl, fun e => h' ⟨hq, e⟩⟩
end Go.Proofs.YtmfhlhjnfaiegaaDoor
