/- The reference's Decode, its pure laws: what a line takes. No condition. -/
import Derived.Test.YtmfhlhjnfaiegaaDoorDcp
namespace Go.Proofs.YtmfhlhjnfaiegaaDoor
set_option linter.unusedVariables false
theorem cut_found {c : UInt8} {s : List UInt8} {m : Nat} (hm : m < s.length) (hc : s[m] = c) (hno : ∀ j (h : j < m), s[j]'(by omega) ≠ c) : Lib.cut s [c] = (s.take m, s.drop (m + 1), true) := by
  have e : s = s.take m ++ c :: s.drop (m + 1) := by rw [← hc, List.getElem_cons_drop, List.take_append_drop]
  have hn : c ∉ s.take m := fun h => by
    obtain ⟨j, hj, hjc⟩ := List.mem_iff_getElem.1 h
    rw [List.getElem_take] at hjc
    exact hno j (by rw [List.length_take] at hj; omega) hjc
  have := cut_yes (s.drop (m + 1)) hn
  rwa [← e] at this
theorem cut_lost {c : UInt8} {s : List UInt8} (hno : ∀ j (h : j < s.length), s[j] ≠ c) : (Lib.cut s [c]).2.2 = false := by
  rw [cut_no (fun h => by
    obtain ⟨j, hj, hjc⟩ := List.mem_iff_getElem.1 h
    exact hno j hj hjc)]
theorem parseI_no {t : List UInt8} (h : t.length ≠ 40) : (parseI t).2 ≠ 0 := fun e => h (parseI_40 e)
/-- a line that begins with the word has no ref -/
theorem lineR_sum {t : List UInt8} (h : Lib.hasPrefix t sumW = true) : lineR t = none := by
  have ht : t = sumW ++ t.drop 4 := by
    unfold Lib.hasPrefix at h
    exact (List.prefix_iff_eq_append.1 (List.isPrefixOf_iff_prefix.1 h)).symm
  have hc : Lib.cut t [32] = ([115, 117, 109], t.drop 4, true) := by
    have := cut_yes (c := 32) (a := [115, 117, 109]) (t.drop 4) (by decide)
    rw [show ([115, 117, 109] : List UInt8) ++ 32 :: t.drop 4 = sumW ++ t.drop 4 from rfl, ← ht] at this
    exact this
  unfold lineR
  rw [hc]
  simp only
  rw [if_neg]
  intro e
  exact parseI_no (by decide) e.2
theorem pre_take {t : List UInt8} (h : 4 ≤ t.length) : Lib.hasPrefix t sumW = decide (t.take 4 = sumW) := by
  unfold Lib.hasPrefix
  have e : (sumW.isPrefixOf t = true) ↔ t.take 4 = sumW := by
    rw [List.isPrefixOf_iff_prefix, List.prefix_iff_eq_take]
    exact ⟨fun h => h.symm, fun h => h.symm⟩
  cases hq : sumW.isPrefixOf t with
  | true => rw [decide_eq_true (e.1 hq)]
  | false => rw [decide_eq_false (fun h => by rw [e.2 h] at hq; cases hq)]
theorem last_44 {t more : List UInt8} (h : lastR t more = true) : t.length = 44 ∧ t.take 4 = sumW := by
  unfold lastR at h
  simp only [Bool.and_eq_true, decide_eq_true_eq] at h
  obtain ⟨⟨h1, h2⟩, _⟩ := h
  have h3 := parseI_40 h2
  unfold Lib.trimPrefix at h3
  rw [if_pos h1, List.length_drop] at h3
  have h4 : sumW.length = 4 := rfl
  have hl : t.length = 44 := by omega
  refine ⟨hl, ?_⟩
  rw [pre_take (by omega)] at h1
  exact of_decide_eq_true h1
theorem last_of {t more : List UInt8} (hl : t.length = 44) (h4 : t.take 4 = sumW) : lastR t more = (decide ((parseI (t.drop 4)).2 = 0) && (more == [])) := by
  have hp : Lib.hasPrefix t sumW = true := by rw [pre_take (by omega)]; exact decide_eq_true h4
  unfold lastR Lib.trimPrefix
  rw [hp, if_pos rfl, show sumW.length = 4 from rfl, Bool.true_and]
/-- what the reference makes of a line -/
theorem lineQ_some {t : List UInt8} (hl : 42 ≤ t.length) (h40 : t[40]'(by omega) = 32) (hp : (parseI (t.take 40)).2 = 0) : lineR t = some (t.drop 41, (parseI (t.take 40)).1) := by
  have hx : allHex (t.take 40) := by
    by_cases hc : (t.take 40).length = 40 ∧ allHex (t.take 40)
    · exact hc.2
    · unfold parseI at hp
      rw [if_neg hc] at hp
      cases hp
  have e : t = t.take 40 ++ 32 :: t.drop 41 := by rw [← h40, List.getElem_cons_drop, List.take_append_drop]
  have hn : (32 : UInt8) ∉ t.take 40 := fun h => by
    have := hx 32 h
    revert this; decide
  have hc : Lib.cut t [32] = (t.take 40, t.drop 41, true) := by
    have := cut_yes (t.drop 41) hn
    rwa [← e] at this
  unfold lineR
  rw [hc]
  simp only
  rw [if_pos ⟨trivial, hp⟩]
theorem lineQ_none {t : List UInt8} (h : t.length < 42 ∨ (∃ hl : 42 ≤ t.length, t[40]'(by omega) ≠ 32) ∨ (42 ≤ t.length ∧ (parseI (t.take 40)).2 ≠ 0)) : lineR t = none ∨ ∃ id, lineR t = some ([], id) := by
  cases hq : lineR t with
  | none => exact .inl rfl
  | some x =>
    obtain ⟨h1, h2, h3, h4, h5, h6⟩ := lineR_some hq
    have h7 := cut_len h4
    have h8 := parseI_40 h5
    obtain ⟨n, hn⟩ : ∃ m, m = (Lib.cut t [32]).2.1 := ⟨_, rfl⟩
    by_cases hm : (32 : UInt8) ∈ t
    · obtain ⟨a, b, rfl, hna⟩ := List.eq_append_cons_of_mem hm
      rw [cut_yes b hna] at h4 h5 h6 h7 h8
      simp only at h5 h6 h7 h8
      rcases h with h | ⟨hl, h⟩ | ⟨hl, h⟩
      · have hb : b = [] := List.eq_nil_of_length_eq_zero (by simp at h; omega)
        exact .inr ⟨x.2, by rw [h6, hb]⟩
      · exfalso
        apply h
        rw [List.getElem_append_right (by omega)]
        simp [h8]
      · exfalso
        apply h
        rw [show (a ++ 32 :: b).take 40 = a by rw [← h8]; simp]
        exact h5
    · rw [cut_no hm] at h4; cases h4
/-- an empty name stays, and spoils all -/
theorem dec_spoilt {n : Nat} {s : List UInt8} {r : List Rf} {id : List UInt8} (b : List UInt8) (h : decL n s (r ++ [([], id)]) = decL (b.length + 1) b []) : decI b = ([], 2) := by
  unfold decI
  rw [← h]
  cases hq : decL n s (r ++ [([], id)]) with
  | none => rfl
  | some q =>
    obtain ⟨t, ht⟩ := dec_keep n s _ q hq
    have : rightB q = false := by
      cases hr : rightB q with
      | false => rfl
      | true =>
        have := right_name hr (r := ([], id)) (by rw [ht]; simp)
        rw [name_nil] at this; cases this
    simp only [this, if_true]
end Go.Proofs.YtmfhlhjnfaiegaaDoor
