/- A slice of slices of bytes as the row's frame hands it over, each one's capacity bounded. No condition. -/
import Derived.Test.YtpfjkappgdpfbaaMemB
namespace Go.Proofs.Ytpfjkappgdpfbaa
open Go.RowKit
set_option linter.unusedVariables false
/-- a slice of slices of bytes -/
def RwsM (w : World) (A : Option Addr) (ls : List (List UInt8)) : Prop :=
  ∀ j l, ls[j]? = some l → ∃ ad Aj cj, A = some ad ∧ w.cell? (ad.add j) = some (.slice Aj l.length cj) ∧ l.length ≤ cj ∧ cj ≤ maxLen ∧ Bs w Aj l
theorem RwsM.below {w w' : World} {A : Option Addr} {ls : List (List UInt8)} (h : RwsM w A ls) (hb : Below w.heap.size w w') : RwsM w' A ls := fun j l hj => by
  obtain ⟨ad, Aj, cj, e, hc, hl, hm, hs⟩ := h j l hj
  exact ⟨ad, Aj, cj, e, (hb.cell (World.block_lt_of_cell? w _ hc)).trans hc, hl, hm, hs.below hb⟩
theorem rowsM_of_row {w : World} {a : Option Addr} {len cap : Nat} {A : Nat → Option Addr} {L C : Nat → Nat} {Z : Nat → List Int}
    (h : (a = none ∧ len = 0 ∧ cap = 0) ∨ ∃ x, a = some x ∧ len ≤ cap ∧ cap ≤ maxLen ∧ ∀ r, r < cap → w.cell? (x.add r) = some (.slice (A r) (L r) (C r)) ∧ L r ≤ C r ∧ C r ≤ maxLen ∧ (Z r).length = C r ∧ (∀ n ∈ Z r, (Lit.int .u8 n).wf = true) ∧ (A r = none → C r = 0) ∧
      ∀ a', A r = some a' → ∀ c, c < C r → w.cell? (a'.add c) = some (.int .u8 ((Z r).getD c 0))) :
    ∃ l : List (List UInt8), len = l.length ∧ l.length ≤ cap ∧ cap ≤ maxLen ∧ RwsM w a l := by
  rcases h with ⟨rfl, rfl, rfl⟩ | ⟨x, rfl, h1, h2, h3⟩
  · exact ⟨[], rfl, by simp, by simp, fun j l hj => by simp at hj⟩
  · let row (r : Nat) : List UInt8 := ((Z r).take (L r)).map fun n => UInt8.ofNat n.toNat
    have hlen : ((List.range len).map row).length = len := by simp
    refine ⟨(List.range len).map row, hlen.symm, by rw [hlen]; exact h1, h2, fun j l hj => ?_⟩
    have hlt : j < len := by
      rcases Nat.lt_or_ge j len with h | h
      · exact h
      · rw [List.getElem?_eq_none (by simp; omega)] at hj; cases hj
    simp only [List.getElem?_map, List.getElem?_range hlt, Option.map_some, Option.some.injEq] at hj
    subst hj
    obtain ⟨hc, hL, hM, hz, hwf, hnone, hcell⟩ := h3 j (by omega)
    have hrl : (row j).length = L j := by simp [row]; omega
    refine ⟨x, A j, C j, rfl, by rw [hrl]; exact hc, by rw [hrl]; exact hL, hM, fun i v hi => ?_⟩
    have hil : i < L j := by
      rcases Nat.lt_or_ge i (L j) with h | h
      · exact h
      · rw [List.getElem?_eq_none (by rw [bvs_length, hrl]; exact h)] at hi; cases hi
    cases hA : A j with
    | none => have := hnone hA; omega
    | some ad =>
      refine ⟨ad, rfl, ?_⟩
      have hzi : i < (Z j).length := by omega
      have hb := bounds_u8 (hwf (Z j)[i] (List.getElem_mem hzi))
      rw [hcell ad hA i (by omega)]
      simp [row, bvs, bv, hil, hzi] at hi
      rw [← hi, List.getD_eq_getElem?_getD, List.getElem?_eq_getElem hzi]
      simp only [Option.getD_some]
      congr 2
      omega
end Go.Proofs.Ytpfjkappgdpfbaa
