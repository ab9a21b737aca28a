/- Signs: strings.IndexByte among the digits, isHex, digit. Condition: a text has at most 2^40 bytes. -/
import Derived.Test.YtmfhlhjnfaiegaaDoorOidP
import Derived.Lib.Slices
import Derived.Lib.Walk
namespace Go.Proofs.YtmfhlhjnfaiegaaDoor
open Go.RowKit
set_option maxRecDepth 100000
set_option maxHeartbeats 4000000
set_option linter.unusedVariables false
theorem indexByteL_any (s : ByteArray) (c : Int) (w : World) :
    Calls Tryd.prog 59 #[.string s, .int .u8 c] w fun e w' => e = .returned (.int .i64 (Lib.indexByte s.data.toList c.toNat.toUInt8)) ∧ w' = w := by
  go_enter Tryd.func59, Tryd.ntmps59
  go_wp2
  rw [run_callFunc_extern Tryd.func75 (by kernel_rfl) (by kernel_rfl) (by kernel_rfl) (e := Extern.BytealgIndexByte.indexByte) (by kernel_rfl), Lib.run_indexByteString]
  simp only [Result.andThen]
  rw [Oper.upon_value]
  go_wp2
  go_ret
  exact ⟨rfl, rfl⟩
theorem indexByte_any (s : ByteArray) (c : Int) (w : World) :
    Calls Tryd.prog 44 #[.string s, .int .u8 c] w fun e w' => e = .returned (.int .i64 (Lib.indexByte s.data.toList c.toNat.toUInt8)) ∧ w' = w := by
  go_enter Tryd.func44, Tryd.ntmps44
  go_wp2_with (go_at_call 59; refine (indexByteL_any _ _ _).mono ?_; rintro e w' ⟨rfl, rfl⟩)
  go_ret
  exact ⟨rfl, rfl⟩
theorem idx_dig (c : UInt8) (w : World) : Calls Tryd.prog 44 #[.string ⟨#[48, 49, 50, 51, 52, 53, 54, 55, 56, 57, 97, 98, 99, 100, 101, 102]⟩, .int .u8 (c.toNat : Int)] w fun e w' => e = .returned (.int .i64 (dig c)) ∧ w = w' := by
  refine (indexByte_any _ _ w).mono ?_
  rintro e w' ⟨rfl, rfl⟩
  have e1 : ((c.toNat : Int)).toNat.toUInt8 = c := by simp
  rw [e1]
  exact ⟨by rw [← indexByte_dig]; rfl, rfl⟩
theorem digit_any (c : UInt8) (w : World) : Calls Tryd.prog 45 #[.int .u8 (c.toNat : Int)] w fun e w' => e = .returned (.int .i64 (dig c)) ∧ w = w' := by
  have hl := c.toNat_lt
  by_cases h1 : 48 ≤ c.toNat ∧ c.toNat ≤ 57
  · have hd : dig c = (c.toNat : Int) - 48 := by unfold dig; rw [if_pos h1]
    obtain ⟨h2, h3⟩ := h1
    have HD := Lib.hid hd
    clear hd
    go_enter Tryd.func45, Tryd.ntmps45
    go_wp2
    go_ret
    exact ⟨by rw [HD.out]; rfl, rfl⟩
  · by_cases h2 : 97 ≤ c.toNat ∧ c.toNat ≤ 102
    · have hd : dig c = (c.toNat : Int) - 87 := by unfold dig; rw [if_neg h1, if_pos h2]
      obtain ⟨h3, h4⟩ := h2
      have h5 : ¬ c.toNat ≤ 57 := by omega
      have HD := Lib.hid hd
      clear hd h1
      go_enter Tryd.func45, Tryd.ntmps45
      go_wp2
      go_ret
      refine ⟨?_, rfl⟩
      rw [HD.out]
      show Ending.returned (Value.int .i64 _) = _
      congr 2
      omega
    · have hd : dig c = -1 := by unfold dig; rw [if_neg h1, if_neg h2]
      have HD := Lib.hid hd
      clear hd
      by_cases g1 : 48 ≤ c.toNat
      · have g2 : ¬ c.toNat ≤ 57 := by omega
        by_cases g3 : 97 ≤ c.toNat
        · have g4 : ¬ c.toNat ≤ 102 := by omega
          clear h1 h2
          go_enter Tryd.func45, Tryd.ntmps45
          go_wp2
          go_ret
          exact ⟨by rw [HD.out]; rfl, rfl⟩
        · clear h1 h2
          go_enter Tryd.func45, Tryd.ntmps45
          go_wp2
          go_ret
          exact ⟨by rw [HD.out]; rfl, rfl⟩
      · have g3 : ¬ 97 ≤ c.toNat := by omega
        clear h1 h2
        go_enter Tryd.func45, Tryd.ntmps45
        go_wp2
        go_ret
        exact ⟨by rw [HD.out]; rfl, rfl⟩
theorem str_at (s : ByteArray) (k : Nat) (h : k < s.size) : s.data.toList.take (k + 1) = s.data.toList.take k ++ [s[k]] ∧ s[k] ∈ s.data.toList := by
  have hl : k < s.data.toList.length := by simpa using h
  refine ⟨?_, ?_⟩
  · rw [List.take_succ_eq_append_getElem hl]; rfl
  · exact List.getElem_mem hl
theorem isHex_any (s : ByteArray) (w : World) (hs : s.size ≤ 1099511627776) : Calls Tryd.prog 43 #[.string s] w fun e w' => e = .returned (.bool (decide (allHex s.data.toList))) ∧ w = w' := by
  go_enter Tryd.func43, Tryd.ntmps43
  go_wp2
  go_loopw [6] (fun t6 wr => ∃ k : Nat, t6 = .int .i64 k ∧ k ≤ s.size ∧ (∀ c ∈ s.data.toList.take k, 0 ≤ dig c) ∧ wr = w) (fun t6 _ => s.size - (intOf t6).toNat)
  case atStart => exact ⟨0, rfl, by omega, by simp, rfl⟩
  case round =>
    obtain ⟨k, rfl, hk, hok, rfl⟩ := hrel
    have HOK := Lib.hid hok
    clear hok
    by_cases hlt : k < s.size
    · obtain ⟨h1, h2⟩ := str_at s k hlt
      have H1 := Lib.hid h1; have H2 := Lib.hid h2
      clear h1 h2
      have ki := idx_dig s[k] wr
      by_cases hd : dig s[k] < 0
      · have HF := Lib.hid (show decide (allHex s.data.toList) = false from decide_eq_false (fun h => by have := h _ H2.out; omega))
        have q1 : decide (dig s[k] < 0) = true := decide_eq_true hd
        have HD := Lib.hid hd
        clear hd
        go_wp2_with (go_at_call 44; (with_reducible refine ki.mono ?_); rintro e w1 ⟨rfl, rfl⟩)
        go_ret
        exact ⟨by rw [HF.out]; rfl, rfl⟩
      · have q1 : decide (dig s[k] < 0) = false := decide_eq_false hd
        have HD := Lib.hid hd
        clear hd
        go_wp2_with (go_at_call 44; (with_reducible refine ki.mono ?_); rintro e w1 ⟨rfl, rfl⟩)
        go_roundw
        case rel =>
          refine ⟨k + 1, by go_num, by omega, fun c hc => ?_, by first | rfl | trivial⟩
          rw [H1.out, List.mem_append] at hc
          rcases hc with hc | hc
          · exact HOK.out c hc
          · simp at hc; subst hc; have := HD.out; omega
        case measure => simp [intOf]; omega
    · obtain rfl : k = s.size := by omega
      have hf : decide (allHex s.data.toList) = true := by
        refine decide_eq_true (fun c hc => HOK.out c ?_)
        rwa [List.take_of_length_le (by simp)]
      have HF := Lib.hid hf
      clear hf
      go_wp2
      go_ret
      exact ⟨by rw [HF.out]; rfl, rfl⟩
end Go.Proofs.YtmfhlhjnfaiegaaDoor
