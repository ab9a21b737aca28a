/- Refs are compared: two rows of one name and twenty bytes. No condition. -/
import Derived.Test.YtmfhlhjnfaiegaaDoorRefR
import Derived.Test.YtmfhlhjnfaiegaaDoorOidEq
namespace Go.Proofs.YtmfhlhjnfaiegaaDoor
open Go.RowKit
set_option maxRecDepth 100000
set_option maxHeartbeats 1000000
set_option linter.unusedVariables false
theorem part_id (T : Nat) (hT : ∀ w, (isAgg T).run Tryd.prog w = .ok true w) (hs : ∀ w, (sizeOf T).run Tryd.prog w = .ok 20 w) (r : Rf) (h : r.2.length = 20) (w : World) : (part T (rcell r).toArray 1).run Tryd.prog w = .ok (idv r.2) w := by
  have e : (rcell r).toArray.extract 1 (1 + 20) = (bvs r.2).toArray := by
    apply Array.ext'
    rw [Array.toList_extract]
    simp only [List.toList_toArray]
    unfold rcell
    rw [List.extract_eq_take_drop]
    simp [h]
    exact List.take_of_length_le (by simp [h])
  simp only [part, Sem.run_bind, hT, hs, Result.andThen_ok, if_true, e]
  rfl
theorem ref_fields : (Tryd.prog.fieldsOf 47).toList = [{ name := "Name", type := 9, offset := 0, embedded := false, tag := "", pkgPath := "", byteOffset := 0 }, { name := "ID", type := 41, offset := 1, embedded := false, tag := "", pkgPath := "", byteOffset := 16 }] := by
  simp [Program.fieldsOf, Tryd.underlying47]
theorem ref_eqIn (d : Nat) (x y : Rf) (hx : x.2.length = 20) (hy : y.2.length = 20) (w : World) : (Op.equalIn (d + 3) 47 (rfv x) (rfv y)).run Tryd.prog w = .ok (decide (x = y)) w := by
  have h1 := run_equalIn_struct (P := Tryd.prog) w (d + 2) 47 (rcell x).toArray (rcell y).toArray (by kernel_rfl) (by kernel_rfl)
  have hA : ∀ w, (isAgg 41).run Tryd.prog w = .ok true w := fun w => by kernel_rfl
  have hS : ∀ w, (sizeOf 41).run Tryd.prog w = .ok 20 w := fun w => by kernel_rfl
  have px := part_id _ hA hS x hx w
  have py := part_id _ hA hS y hy w
  have nx : (part 9 (rcell x).toArray 0).run Tryd.prog w = .ok (.string (bstr x.1)) w := run_part_plain w (by kernel_rfl) (by simp [rcell])
  have ny : (part 9 (rcell y).toArray 0).run Tryd.prog w = .ok (.string (bstr y.1)) w := run_part_plain w (by kernel_rfl) (by simp [rcell])
  have es : (Op.equalIn (d + 2) 9 (.string (bstr x.1)) (.string (bstr y.1))).run Tryd.prog w = .ok ((bstr x.1).toList == (bstr y.1).toList) w := run_equalIn_string (P := Tryd.prog) w (d + 1) 9 (bstr x.1) (bstr y.1) Tryd.underlying9
  have ea := eqlIn_run9 d 41 (by kernel_rfl) x.2 y.2 hx hy w
  rw [h1, ref_fields]
  have hn : ∀ a b : List UInt8, ((bstr a).toList == (bstr b).toList) = decide (a = b) := fun a b => by
    rw [Lib.toList_data, Lib.toList_data]
    by_cases h : a = b
    · subst h; simp
    · simp [h]
  rw [hn] at es
  obtain ⟨e, he⟩ : ∃ e, e = d + 2 := ⟨_, rfl⟩
  rw [← he] at es ea ⊢
  clear he h1
  rw [Op.eqFields, if_pos (by simp), Sem.run_bind, nx, Result.andThen_ok, Sem.run_bind, ny, Result.andThen_ok, Sem.run_bind, es, Result.andThen_ok, Sem.run_ite]
  by_cases h : x.1 = y.1
  · rw [if_neg (by simp [h])]
    rw [Op.eqFields, if_pos (by simp), Sem.run_bind, px, Result.andThen_ok, Sem.run_bind, py, Result.andThen_ok, Sem.run_bind, ea, Result.andThen_ok, Op.eqFields, Sem.run_ite, Sem.run_pure, Sem.run_pure]
    by_cases h2 : x.2 = y.2
    · rw [if_neg (by simp [h2]), decide_eq_true (Prod.ext h h2)]
    · rw [if_pos (by simp [h2]), decide_eq_false (fun e => h2 (congrArg Prod.snd e))]
  · rw [if_pos (by simp [h]), Sem.run_pure, decide_eq_false (fun e => h (congrArg Prod.fst e))]
theorem ref_neq (x y : Rf) (hx : x.2.length = 20) (hy : y.2.length = 20) (w : World) : (binOp .neq 47 (rfv x) (rfv y)).run Tryd.prog w = .ok (.bool (!decide (x = y))) w := by
  have h := ref_eqIn 9997 x y hx hy w
  rw [run_neq_struct]
  rw [show (10000 : Nat) = 9997 + 3 from rfl, h]
  rfl
end Go.Proofs.YtmfhlhjnfaiegaaDoor
