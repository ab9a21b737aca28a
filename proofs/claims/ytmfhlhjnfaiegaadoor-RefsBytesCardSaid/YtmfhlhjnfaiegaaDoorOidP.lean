/- Names of objects as functions on lists of bytes: signs, what a text tells. No condition. -/
import Derived.Test.YtmfhlhjnfaiegaaDoorSeat
import Derived.Lib.Strings
import Derived.Lib.Bytealg
namespace Go.Proofs.YtmfhlhjnfaiegaaDoor
open Go.RowKit
set_option linter.unusedVariables false
def digs : List UInt8 := [48, 49, 50, 51, 52, 53, 54, 55, 56, 57, 97, 98, 99, 100, 101, 102]
def hexd (n : Nat) : UInt8 := digs.getD n 0
def hexs (id : List UInt8) : List UInt8 := id.flatMap fun c => [hexd (c.toNat / 16), hexd (c.toNat % 16)]
/-- a sign's value; -1: none -/
def dig (c : UInt8) : Int := if 48 ≤ c.toNat ∧ c.toNat ≤ 57 then (c.toNat : Int) - 48 else if 97 ≤ c.toNat ∧ c.toNat ≤ 102 then (c.toNat : Int) - 87 else -1
theorem u8_all {P : UInt8 → Prop} (h : ∀ n < 256, P (UInt8.ofNat n)) (c : UInt8) : P c := by
  have := h c.toNat c.toNat_lt
  simpa using this
theorem indexByte_dig (c : UInt8) : Lib.indexByte digs c = dig c := by
  revert c
  refine u8_all ?_
  decide +kernel
theorem dig_lt (c : UInt8) : -1 ≤ dig c ∧ dig c ≤ 15 := by
  unfold dig
  split
  · omega
  · split <;> omega
theorem dig_hexd : ∀ n < 16, dig (hexd n) = n := by decide +kernel
/-- the name's bytes behind i signs -/
def pst (s : List UInt8) : Nat → List UInt8
  | 0 => List.replicate 20 0
  | i + 1 => (pst s i).set (i / 2) (UInt8.ofNat (((pst s i).getD (i / 2) 0).toNat % 16 * 16 + (dig (s.getD i 0)).toNat))
theorem pst_len (s : List UInt8) : ∀ i, (pst s i).length = 20
  | 0 => by simp [pst]
  | i + 1 => by rw [pst, List.length_set, pst_len s i]
def allHex (s : List UInt8) : Prop := ∀ c ∈ s, 0 ≤ dig c
instance (s : List UInt8) : Decidable (allHex s) := by unfold allHex; infer_instance
/-- what Parse answers -/
def parseI (s : List UInt8) : List UInt8 × Nat := if s.length = 40 ∧ allHex s then (pst s 40, 0) else (List.replicate 20 0, 2)
theorem parseI_len (s : List UInt8) : (parseI s).1.length = 20 := by
  have h := pst_len s 40
  unfold parseI
  generalize pst s 40 = t at h ⊢
  split
  · exact h
  · simp
theorem hexs_len (id : List UInt8) : (hexs id).length = 2 * id.length := by
  induction id with
  | nil => rfl
  | cons c l ih => simp only [hexs, List.flatMap_cons, List.length_append, List.length_cons, List.length_nil] at *; omega
theorem hexs_at (id : List UInt8) (j : Nat) (h : j < id.length) : (hexs id).getD (2 * j) 0 = hexd (id[j].toNat / 16) ∧ (hexs id).getD (2 * j + 1) 0 = hexd (id[j].toNat % 16) := by
  induction id generalizing j with
  | nil => simp at h
  | cons c l ih =>
    cases j with
    | zero => simp [hexs]
    | succ j =>
      have := ih j (by simpa using h)
      simp only [hexs, List.flatMap_cons, List.cons_append, List.nil_append] at *
      rw [show 2 * (j + 1) = 2 * j + 1 + 1 by omega, show 2 * j + 1 + 1 + 1 = (2 * j + 1) + 1 + 1 by omega]
      simpa using this
theorem allHex_hexs (id : List UInt8) : allHex (hexs id) := by
  intro c hc
  simp only [hexs, List.mem_flatMap] at hc
  obtain ⟨x, _, hx⟩ := hc
  have hl := x.toNat_lt
  simp at hx
  rcases hx with rfl | rfl
  · rw [dig_hexd _ (by omega)]; omega
  · rw [dig_hexd _ (by omega)]; omega
theorem pst_hexs (id : List UInt8) (h : id.length = 20) : ∀ j, j ≤ 20 → pst (hexs id) (2 * j) = id.take j ++ List.replicate (20 - j) 0
  | 0, _ => by simp [pst]
  | j + 1, hj => by
    have ih := pst_hexs id h j (by omega)
    obtain ⟨h1, h2⟩ := hexs_at id j (by omega)
    have hlj : (id.take j).length = j := by simp; omega
    have hl := (id[j]'(by omega)).toNat_lt
    have hr : List.replicate (20 - j) (0 : UInt8) = 0 :: List.replicate (20 - (j + 1)) 0 := by rw [show 20 - j = (20 - (j + 1)) + 1 by omega, List.replicate_succ]
    rw [show 2 * (j + 1) = 2 * j + 1 + 1 by omega, pst, pst, ih, h1, h2, dig_hexd _ (by omega), dig_hexd _ (by omega)]
    rw [show (2 * j + 1) / 2 = j by omega, show 2 * j / 2 = j by omega, hr]
    have hset : ∀ (x y : UInt8), (id.take j ++ x :: List.replicate (20 - (j + 1)) 0).set j y = id.take j ++ y :: List.replicate (20 - (j + 1)) 0 := fun x y => by
      rw [List.set_append_right _ _ (by omega), hlj, Nat.sub_self]; rfl
    have hget : ∀ (x : UInt8), (id.take j ++ x :: List.replicate (20 - (j + 1)) 0).getD j 0 = x := fun x => by
      rw [List.getD_eq_getElem?_getD, List.getElem?_append_right (by omega), hlj, Nat.sub_self]; rfl
    rw [hget, hset, hget, hset, List.take_succ_eq_append_getElem (by omega), List.append_assoc]
    congr 2
    apply UInt8.toNat_inj.1
    simp
    omega
theorem parseI_hexs (id : List UInt8) (h : id.length = 20) : parseI (hexs id) = (id, 0) := by
  unfold parseI
  rw [if_pos ⟨by rw [hexs_len, h], allHex_hexs id⟩]
  have := pst_hexs id h 20 (by omega)
  rw [show 2 * 20 = 40 from rfl] at this
  rw [this, List.take_of_length_le (by omega)]
  simp
end Go.Proofs.YtmfhlhjnfaiegaaDoor
