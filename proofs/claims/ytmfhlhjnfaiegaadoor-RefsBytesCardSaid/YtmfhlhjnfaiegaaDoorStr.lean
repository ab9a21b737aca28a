/- Texts as lists of bytes: a sign, a part of a text. No condition. -/
import Derived.Test.YtmfhlhjnfaiegaaDoorOidD
import Derived.Laws.DeepStrings4
namespace Go.Proofs.YtmfhlhjnfaiegaaDoor
open Go.RowKit
set_option maxRecDepth 100000
set_option maxHeartbeats 1000000
set_option linter.unusedVariables false
theorem bstr_size (s : List UInt8) : (bstr s).size = s.length := by show s.toArray.size = _; simp
theorem ext_bstr (s : List UInt8) (i j : Nat) : (bstr s).extract i j = bstr ((s.drop i).take (j - i)) := by
  apply ByteArray.ext
  rw [ByteArray.data_extract]
  apply Array.ext'
  rw [Array.toList_extract, List.extract_eq_take_drop]
theorem idx_str (s : List UInt8) (i : Nat) (h : i < s.length) (w : World) : (Instr.index 9 (.string (bstr s)) (.int .i64 (i : Int))).run Tryd.prog w = .ok (.int .u8 ((s[i]).toNat : Int)) w := by
  rw [run_index_string w 9 (bstr s) .i64 (i : Int) Tryd.underlying9, dif_pos ⟨by omega, by rw [bstr_size]; omega⟩]
  rfl
theorem str_lh (s : List UInt8) (i j : Nat) (h : i ≤ j) (hj : j ≤ s.length) (w : World) : (Instr.slice 9 (.string (bstr s)) (some (.int .i64 (i : Int))) (some (.int .i64 (j : Int))) none).run Tryd.prog w = .ok (.string (bstr ((s.drop i).take (j - i)))) w := by
  rw [run_slice_string_if w 9 (bstr s) .i64 .i64 i j Tryd.underlying9, if_pos ⟨by omega, by rw [bstr_size]; omega⟩, if_pos ⟨by omega, by omega⟩, ext_bstr]
  rfl
theorem str_l (s : List UInt8) (i : Nat) (h : i ≤ s.length) (w : World) : (Instr.slice 9 (.string (bstr s)) (some (.int .i64 (i : Int))) none none).run Tryd.prog w = .ok (.string (bstr (s.drop i))) w := by
  rw [run_slice_string_l w 9 (bstr s) Tryd.underlying9 .i64 i (by omega) (by rw [bstr_size]; omega), ext_bstr, bstr_size]
  simp only [Int.toNat_natCast]
  rw [List.take_of_length_le (by rw [List.length_drop]; exact Nat.le_refl _)]
theorem str_h (s : List UInt8) (j : Nat) (h : j ≤ s.length) (w : World) : (Instr.slice 9 (.string (bstr s)) none (some (.int .i64 (j : Int))) none).run Tryd.prog w = .ok (.string (bstr (s.take j))) w := by
  rw [run_slice_string_h w 9 (bstr s) Tryd.underlying9 .i64 j (by omega) (by rw [bstr_size]; omega), ext_bstr]
  rfl
theorem bstr_app (a b : List UInt8) : (bstr a ++ bstr b : ByteArray) = bstr (a ++ b) := by
  apply ByteArray.ext
  simp
end Go.Proofs.YtmfhlhjnfaiegaaDoor
