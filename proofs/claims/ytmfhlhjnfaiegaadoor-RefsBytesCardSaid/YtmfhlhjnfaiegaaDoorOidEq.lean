/- Names are compared cell by cell. No condition. -/
import Derived.Test.YtmfhlhjnfaiegaaDoorOidB
import Derived.Laws.StructEq
import Derived.ChangeKeysEq
namespace Go.Proofs.YtmfhlhjnfaiegaaDoor
open Go.RowKit
set_option maxRecDepth 100000
set_option maxHeartbeats 4000000
set_option linter.unusedVariables false
theorem eqItems_b (d : Nat) (a b : List UInt8) (w : World) : ∀ is : List Nat, (∀ i ∈ is, i < a.length ∧ i < b.length) →
    (Op.eqItems (d + 1) 5 1 (bvs a).toArray (bvs b).toArray is).run Tryd.prog w = .ok (decide (∀ i ∈ is, a[i]? = b[i]?)) w
  | [], _ => by simp [Op.eqItems]
  | i :: is, h => by
    obtain ⟨ha, hb⟩ := h i (by simp)
    have ih := eqItems_b d a b w is (fun j hj => h j (by simp [hj]))
    have pa : (part 5 (bvs a).toArray i).run Tryd.prog w = .ok (.int .u8 (a[i].toNat : Int)) w := run_part_plain w (by kernel_rfl) (by simp [bvs, bv, ha])
    have pb : (part 5 (bvs b).toArray i).run Tryd.prog w = .ok (.int .u8 (b[i].toNat : Int)) w := run_part_plain w (by kernel_rfl) (by simp [bvs, bv, hb])
    have pe : (Op.equalIn (d + 1) 5 (.int .u8 (a[i].toNat : Int)) (.int .u8 (b[i].toNat : Int))).run Tryd.prog w = .ok ((a[i].toNat : Int) == (b[i].toNat : Int)) w := by
      simp [Op.equalIn, run_underlying Tryd.underlying5]
    have hab : a[i]? = b[i]? ↔ a[i] = b[i] := by simp [ha, hb]
    simp only [Op.eqItems, Sem.run_bind, Nat.mul_one, pa, pb, pe, Result.andThen_ok]
    by_cases he : a[i] = b[i]
    · simp only [he, beq_self_eq_true, Bool.not_true, Bool.false_eq_true, if_false, ih]
      congr 1
      simp [he, hab]
    · have hn : ((a[i].toNat : Int) == (b[i].toNat : Int)) = false := by
        simp only [beq_eq_false_iff_ne, ne_eq]
        intro e
        exact he (UInt8.toNat_inj.1 (by omega))
      simp only [hn, Bool.not_false, if_true, Sem.run_pure]
      congr 1
      simp [he, ha, hb]
theorem eqlIn_run (T : Nat) (hT : Tryd.prog.underlying T = some (.array 20 5)) (a b : List UInt8) (ha : a.length = 20) (hb : b.length = 20) (w : World) :
    (Op.equalIn 10000 T (idv a) (idv b)).run Tryd.prog w = .ok (decide (a = b)) w := by
  obtain ⟨i5, hi, _⟩ := info_parts Tryd.info5
  have h1 := run_equalIn_array (P := Tryd.prog) (w := w) 9999 (bvs a).toArray (bvs b).toArray hT hi
  have hc : Tryd.prog.cellsOf 5 = 1 := by kernel_rfl
  rw [hc, eqItems_b 9998 a b w (List.range 20) (fun i hi => by simp at hi; omega)] at h1
  have hd : decide (∀ i ∈ List.range 20, a[i]? = b[i]?) = decide (a = b) := by
    refine decide_eq_decide.2 ⟨fun h => List.ext_getElem? fun i => ?_, fun h i _ => by rw [h]⟩
    by_cases hi : i < 20
    · exact h i (by simpa using hi)
    · rw [List.getElem?_eq_none (by omega), List.getElem?_eq_none (by omega)]
  rw [h1, hd]
theorem eqlIn_run9 (d : Nat) (T : Nat) (hT : Tryd.prog.underlying T = some (.array 20 5)) (a b : List UInt8) (ha : a.length = 20) (hb : b.length = 20) (w : World) :
    (Op.equalIn (d + 2) T (idv a) (idv b)).run Tryd.prog w = .ok (decide (a = b)) w := by
  obtain ⟨i5, hi, _⟩ := info_parts Tryd.info5
  have h1 := run_equalIn_array (P := Tryd.prog) (w := w) (d + 1) (bvs a).toArray (bvs b).toArray hT hi
  have hc : Tryd.prog.cellsOf 5 = 1 := by kernel_rfl
  rw [hc, eqItems_b d a b w (List.range 20) (fun i hi => by simp at hi; omega)] at h1
  have hd : decide (∀ i ∈ List.range 20, a[i]? = b[i]?) = decide (a = b) := by
    refine decide_eq_decide.2 ⟨fun h => List.ext_getElem? fun i => ?_, fun h i _ => by rw [h]⟩
    by_cases hi : i < 20
    · exact h i (by simpa using hi)
    · rw [List.getElem?_eq_none (by omega), List.getElem?_eq_none (by omega)]
  rw [h1, hd]
theorem eql_run (T : Nat) (hT : Tryd.prog.underlying T = some (.array 20 5)) (a b : List UInt8) (ha : a.length = 20) (hb : b.length = 20) (w : World) :
    (binOp .eql T (idv a) (idv b)).run Tryd.prog w = .ok (.bool (decide (a = b))) w := by
  rw [run_eql_struct, eqlIn_run T hT a b ha hb w]
  rfl
theorem neq_run (T : Nat) (hT : Tryd.prog.underlying T = some (.array 20 5)) (a b : List UInt8) (ha : a.length = 20) (hb : b.length = 20) (w : World) :
    (binOp .neq T (idv a) (idv b)).run Tryd.prog w = .ok (.bool (decide (a ≠ b))) w := by
  have h := eql_run T hT a b ha hb w
  rw [run_eql_struct] at h
  rw [run_neq_struct]
  generalize (Op.equalIn 10000 T (idv a) (idv b)).run Tryd.prog w = r at h ⊢
  cases r with
  | ok v w1 =>
    simp only [Result.andThen] at h ⊢
    injection h with h1 h2
    injection h1 with h1
    subst h1 h2
    simp
  | halt x w1 => simp [Result.andThen] at h
end Go.Proofs.YtmfhlhjnfaiegaaDoor
