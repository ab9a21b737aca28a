/- Rising rows of names: there is one for each set of names; equal neighbours left out of a sorted row; one name put in. No condition. -/
import Derived.Test.YtjiiploleinobaaOidP
import Derived.Sort.AssemblyPlain
namespace Go.Proofs.Ytjiiploleinobaa
open Go.Sort (SWO PermIn SortedIn ltStr swo_ltStr)
set_option linter.unusedVariables false
theorem cmp_lt : ∀ a b : List UInt8, Lib.compareBytes a b < 0 ↔ a < b
  | [], [] => by simp [Lib.compareBytes]
  | [], y :: b => by simp [Lib.compareBytes]
  | x :: a, [] => by simp [Lib.compareBytes]
  | x :: a, y :: b => by
    have ih := cmp_lt a b
    rw [List.cons_lt_cons_iff]
    have l1 : x < y ↔ x.toNat < y.toNat := Iff.rfl
    have l2 : y < x ↔ y.toNat < x.toNat := Iff.rfl
    rcases Nat.lt_trichotomy x.toNat y.toNat with h | h | h
    · have n2 : ¬ y < x := fun e => by have := l2.1 e; omega
      simp [Lib.compareBytes, l1.2 h, n2]
    · have e : x = y := UInt8.toNat_inj.1 h
      subst e
      have n1 : ¬ x < x := fun e => by have := l1.1 e; omega
      simp [Lib.compareBytes, n1, ih]
    · have n1 : ¬ x < y := fun e => by have := l1.1 e; omega
      have n2 : ¬ x = y := fun e => by subst e; omega
      simp [Lib.compareBytes, n1, n2, l2.2 h]
theorem cmp_str (a b : List UInt8) : decide (Lib.compareBytes a b < 0) = ltStr a b := by
  unfold ltStr
  exact decide_eq_decide.2 (cmp_lt a b)
/-- rising -/
abbrev Ris (l : List (List UInt8)) : Prop := l.Pairwise (· < ·)
theorem ris_unique : ∀ (a b : List (List UInt8)), Ris a → Ris b → (∀ x, x ∈ a ↔ x ∈ b) → a = b
  | [], [], _, _, _ => rfl
  | [], y :: b, _, _, h => absurd ((h y).2 (by simp)) (by simp)
  | x :: a, [], _, _, h => absurd ((h x).1 (by simp)) (by simp)
  | x :: a, y :: b, ha, hb, h => by
    obtain ⟨a1, a2⟩ := List.pairwise_cons.1 ha
    obtain ⟨b1, b2⟩ := List.pairwise_cons.1 hb
    have hxy : x = y := by
      have hx : x ∈ y :: b := (h x).1 (by simp)
      have hy : y ∈ x :: a := (h y).2 (by simp)
      rcases List.mem_cons.1 hx with e | e
      · exact e
      · rcases List.mem_cons.1 hy with e' | e'
        · exact e'.symm
        · exact absurd (List.lt_trans (a1 y e') (b1 x e)) (List.lt_irrefl x)
    subst hxy
    rw [ris_unique a b a2 b2 fun z => ⟨fun hz => ?_, fun hz => ?_⟩]
    · have := (h z).1 (by simp [hz])
      rcases List.mem_cons.1 this with e | e
      · exact absurd (e ▸ a1 z hz) (List.lt_irrefl _)
      · exact e
    · have := (h z).2 (by simp [hz])
      rcases List.mem_cons.1 this with e | e
      · exact absurd (e ▸ b1 z hz) (List.lt_irrefl _)
      · exact e
/-- equal neighbours left out, from the front -/
def cmpt (d : List (List UInt8)) : Nat → List (List UInt8)
  | 0 => []
  | 1 => d.take 1
  | m + 2 => if d.getD (m + 1) [] = d.getD m [] then cmpt d (m + 1) else cmpt d (m + 1) ++ [d.getD (m + 1) []]
theorem cmpt_len (d : List (List UInt8)) : ∀ m, (cmpt d m).length ≤ m
  | 0 => by simp [cmpt]
  | 1 => by simp [cmpt]; omega
  | m + 2 => by
    have := cmpt_len d (m + 1)
    rw [cmpt]
    split
    · omega
    · simp; omega
theorem cmpt_last (d : List (List UInt8)) : ∀ m, m < d.length → (cmpt d (m + 1)).getLast? = some (d.getD m [])
  | 0, h => by
    cases d with
    | nil => simp at h
    | cons x d => simp [cmpt]
  | m + 1, h => by
    rw [cmpt]
    split
    next e => rw [cmpt_last d m (by omega), e]
    next e => simp
theorem cmpt_mem (d : List (List UInt8)) : ∀ m, m ≤ d.length → ∀ x, x ∈ cmpt d m ↔ x ∈ d.take m
  | 0, _, x => by simp [cmpt]
  | 1, _, x => by simp [cmpt]
  | m + 2, h, x => by
    have ih := cmpt_mem d (m + 1) (by omega) x
    have hg : d.getD (m + 1) [] = d[m + 1]'(by omega) := by rw [List.getD_eq_getElem?_getD, List.getElem?_eq_getElem (by omega)]; rfl
    rw [cmpt, List.take_succ_eq_append_getElem (by omega : m + 1 < d.length)]
    split
    next e =>
      rw [ih, List.mem_append, List.mem_singleton, ← hg, e]
      refine ⟨.inl, fun hh => ?_⟩
      rcases hh with hh | hh
      · exact hh
      · rw [hh]
        have hm : d.getD m [] = d[m]'(by omega) := by rw [List.getD_eq_getElem?_getD, List.getElem?_eq_getElem (by omega)]; rfl
        rw [hm, List.mem_take_iff_getElem]
        exact ⟨m, by omega, rfl⟩
    next e => rw [List.mem_append, List.mem_append, List.mem_singleton, List.mem_singleton, ih, hg]
theorem cmpt_ris (d : List (List UInt8)) (hd : ∀ i j, i < j → j < d.length → ¬ d.getD j [] < d.getD i []) : ∀ m, m ≤ d.length → Ris (cmpt d m) ∧ ∀ x ∈ cmpt d m, m ≠ 0 → x ≤ d.getD (m - 1) []
  | 0, _ => by simp [cmpt, Ris]
  | 1, h => by
    cases d with
    | nil => simp at h
    | cons x d => simp [cmpt, Ris, List.le_refl]
  | m + 2, h => by
    obtain ⟨i1, i2⟩ := cmpt_ris d hd (m + 1) (by omega)
    have hle : d.getD m [] ≤ d.getD (m + 1) [] := List.not_lt.1 (hd m (m + 1) (by omega) (by omega))
    rw [cmpt]
    split
    next e =>
      refine ⟨i1, fun x hx _ => ?_⟩
      have := i2 x hx (by omega)
      rw [show m + 2 - 1 = m + 1 by omega, e]
      exact this
    next e =>
      refine ⟨List.pairwise_append.2 ⟨i1, by simp, fun x hx y hy => ?_⟩, fun x hx _ => ?_⟩
      · rw [List.mem_singleton] at hy
        subst hy
        have h1 := i2 x hx (by omega)
        have h2 : d.getD m [] < d.getD (m + 1) [] := by
          by_cases g : d.getD m [] < d.getD (m + 1) []
          · exact g
          · exact absurd (List.le_antisymm (List.not_lt.1 g) hle) e
        exact List.lt_of_le_of_lt h1 h2
      · rcases List.mem_append.1 hx with hx | hx
        · exact List.le_trans (i2 x hx (by omega)) (by simpa using hle)
        · rw [List.mem_singleton] at hx
          subst hx
          exact List.le_refl _
end Go.Proofs.Ytjiiploleinobaa
