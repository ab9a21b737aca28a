/- The maker's small functions: a block's sum, how far two lists are alike. Condition: lists have at most 2^40 bytes. -/
import Derived.Test.YtpfjkappgdpfbaaDelM
import Derived.Test.YtpfjkappgdpfbaaDelT
import Derived.BigQuiet
namespace Go.Proofs.Ytpfjkappgdpfbaa
set_option linter.unusedVariables false
open Go.RowKit
set_option maxRecDepth 100000
set_option maxHeartbeats 4000000
theorem total_any (A : Option Addr) (c : Nat) (l : List UInt8) (w : World) (hl : 16 ≤ l.length) (hc : l.length ≤ c) (hcm : c ≤ maxLen) (hA : Bs w A l) :
    Calls Try.prog 62 #[.slice A l.length c] w fun e w' => (∃ v : Int, e = .returned (.int .u32 v) ∧ 0 ≤ v ∧ v < 4294967296) ∧ w = w' := by
  have hsl := slice_lh Try.underlying22 Try.one22 A l.length c 0 16 16 0 (by omega) (by omega) (by omega) (by omega) (by omega)
  go_enter Try.func62, Try.ntmps62
  go_wp2
  go_loopw [3, 9] (fun t3 t9 wr => ∃ (v : Int) (k : Nat), t3 = .int .u32 v ∧ 0 ≤ v ∧ v < 4294967296 ∧ t9 = .int .i64 k ∧ k ≤ 16 ∧ wr = w) (fun _ t9 _ => 16 - (intOf t9).toNat)
  case atStart => exact ⟨0, 0, rfl, by omega, by omega, rfl, by omega, rfl⟩
  case round =>
    obtain ⟨v, k, rfl, hv0, hv1, rfl, hk, rfl⟩ := hrel
    by_cases hlt : k < 16
    · obtain ⟨ad, rfl, hcell⟩ := Bs.at hA (j := k) (by omega)
      go_wp2
      go_roundw
      case rel => exact ⟨_, k + 1, rfl, by omega, by omega, by go_num, by omega, by first | rfl | trivial⟩
      case measure => simp [intOf]; omega
    · obtain rfl : k = 16 := by omega
      go_wp2
      go_ret
      exact ⟨⟨v, rfl, hv0, hv1⟩, by first | rfl | trivial⟩
theorem top_any (w : World) : Calls Try.prog 63 #[] w fun e w' => (∃ v : Int, e = .returned (.int .u32 v) ∧ 0 ≤ v ∧ v < 4294967296) ∧ w = w' := by
  go_enter Try.func63, Try.ntmps63
  go_wp2
  go_loopw [1, 2] (fun t3 t9 wr => ∃ (v : Int) (k : Nat), t3 = .int .u32 v ∧ 0 ≤ v ∧ v < 4294967296 ∧ t9 = .int .i64 k ∧ k ≤ 15 ∧ wr = w) (fun _ t9 _ => 15 - (intOf t9).toNat)
  case atStart => exact ⟨1, 0, rfl, by omega, by omega, rfl, by omega, rfl⟩
  case round =>
    obtain ⟨v, k, rfl, hv0, hv1, rfl, hk, rfl⟩ := hrel
    by_cases hlt : k < 15
    · go_wp2
      go_roundw
      case rel => exact ⟨_, k + 1, rfl, by omega, by omega, by go_num, by omega, by first | rfl | trivial⟩
      case measure => simp [intOf]; omega
    · obtain rfl : k = 15 := by omega
      go_wp2
      go_ret
      exact ⟨⟨v, rfl, hv0, hv1⟩, by first | rfl | trivial⟩
theorem u8_eq {a b : UInt8} (h : a = b) : ((a.toNat : Int) == (b.toNat : Int)) = true := by simp [h]
theorem u8_ne {a b : UInt8} (h : a ≠ b) : ((a.toNat : Int) == (b.toNat : Int)) = false := by
  rw [beq_eq_false_iff_ne]
  intro e
  exact h (UInt8.toNat_inj.1 (by omega))
theorem alike_any (A : Option Addr) (c : Nat) (l : List UInt8) (A2 : Option Addr) (c2 : Nat) (m : List UInt8) (w : World) (hl : l.length ≤ 1099511627776) (hm : m.length ≤ 1099511627776) (hA : Bs w A l) (hA2 : Bs w A2 m) :
    Calls Try.prog 53 #[.slice A l.length c, .slice A2 m.length c2] w fun e w' => e = .returned (.int .i64 (alike l m)) ∧ Below w.heap.size w w' := by
  go_enter Try.func53, Try.ntmps53
  go_wp2
  go_loopw [5] (fun t5 wr => ∃ n : Nat, t5 = .int .i64 n ∧ n ≤ l.length ∧ n ≤ m.length ∧ alike l m = n + alike (l.drop n) (m.drop n) ∧ Below w.heap.size w wr) (fun t5 _ => l.length - (intOf t5).toNat)
  case atStart => exact ⟨0, rfl, by omega, by omega, by simp, Below.refl _ _⟩
  case round =>
    obtain ⟨n, rfl, h1, h2, h3, hb⟩ := hrel
    have H3 := Lib.hid h3; clear h3
    by_cases q1 : n < l.length
    · by_cases q2 : n < m.length
      · obtain ⟨ad, rfl, hcell⟩ := Bs.at (hA.below hb) q1
        obtain ⟨ad2, rfl, hcell2⟩ := Bs.at (hA2.below hb) q2
        have hst := alike_step q1 q2
        by_cases e : l[n] = m[n]
        · rw [if_pos e] at hst
          have q3 := u8_eq e
          have HST := Lib.hid hst; clear hst e
          go_wp2
          go_quiet (fail)
          go_wp2
          go_roundw
          case rel => exact ⟨n + 1, by go_num, by omega, by omega, by rw [H3.out, HST.out]; omega, Below.drewN hb _⟩
          case measure => simp [intOf]; omega
        · rw [if_neg e] at hst
          have q3 := u8_ne e
          have hf : alike l m = n := by rw [H3.out, hst]; rfl
          have HF := Lib.hid hf; clear hf hst e
          go_wp2
          go_quiet (fail)
          go_wp2
          go_ret
          exact ⟨by rw [HF.out]; rfl, Below.drewN hb _⟩
      · have hst := alike_end (l := l) (m := m) (n := n) (by omega)
        have hf : alike l m = n := by rw [H3.out, hst]; rfl
        have HF := Lib.hid hf; clear hf hst
        go_wp2
        go_quiet (fail)
        go_wp2
        go_ret
        exact ⟨by rw [HF.out]; rfl, Below.drewN hb _⟩
    · have hst := alike_end (l := l) (m := m) (n := n) (by omega)
      have hf : alike l m = n := by rw [H3.out, hst]; rfl
      have HF := Lib.hid hf; clear hf hst
      go_wp2
      go_quiet (fail)
      go_wp2
      go_ret
      exact ⟨by rw [HF.out]; rfl, Below.drewN hb _⟩
theorem behind_any (A : Option Addr) (c : Nat) (l : List UInt8) (A2 : Option Addr) (c2 : Nat) (m : List UInt8) (w : World) (hl : l.length ≤ 1099511627776) (hm : m.length ≤ 1099511627776) (hA : Bs w A l) (hA2 : Bs w A2 m) :
    Calls Try.prog 54 #[.slice A l.length c, .slice A2 m.length c2] w fun e w' => e = .returned (.int .i64 (behind l m)) ∧ Below w.heap.size w w' := by
  have hll : l.reverse.length = l.length := by simp
  have hml : m.reverse.length = m.length := by simp
  have HLL := Lib.hid hll; have HML := Lib.hid hml; clear hll hml
  go_enter Try.func54, Try.ntmps54
  go_wp2
  go_loopw [5] (fun t5 wr => ∃ n : Nat, t5 = .int .i64 n ∧ n ≤ l.length ∧ n ≤ m.length ∧ behind l m = n + alike (l.reverse.drop n) (m.reverse.drop n) ∧ Below w.heap.size w wr) (fun t5 _ => l.length - (intOf t5).toNat)
  case atStart => exact ⟨0, rfl, by omega, by omega, by simp [behind], Below.refl _ _⟩
  case round =>
    obtain ⟨n, rfl, h1, h2, h3, hb⟩ := hrel
    have H3 := Lib.hid h3; clear h3
    by_cases q1 : n < l.length
    · by_cases q2 : n < m.length
      · have p1 : l.length - 1 - n < l.length := by omega
        have p2 : m.length - 1 - n < m.length := by omega
        obtain ⟨ad, rfl, hcell⟩ := Bs.at (hA.below hb) p1
        obtain ⟨ad2, rfl, hcell2⟩ := Bs.at (hA2.below hb) p2
        have hst := alike_step (l := l.reverse) (m := m.reverse) (n := n) (by rw [HLL.out]; exact q1) (by rw [HML.out]; exact q2)
        rw [List.getElem_reverse, List.getElem_reverse] at hst
        have w1 : (l.length : Int) - 1 - n = ((l.length - 1 - n : Nat) : Int) := by omega
        have w2 : (m.length : Int) - 1 - n = ((m.length - 1 - n : Nat) : Int) := by omega
        have w3 : ((l.length : Int) - 1 - n).toNat = l.length - 1 - n := by omega
        have w4 : ((m.length : Int) - 1 - n).toNat = m.length - 1 - n := by omega
        by_cases e : l[l.length - 1 - n] = m[m.length - 1 - n]
        · rw [if_pos e] at hst
          have q3 := u8_eq e
          have HST := Lib.hid hst; clear hst e
          go_wp2
          go_quiet (fail)
          go_wp2
          go_roundw
          case rel => exact ⟨n + 1, by go_num, by omega, by omega, by rw [H3.out, HST.out]; omega, Below.drewN hb _⟩
          case measure => simp [intOf]; omega
        · rw [if_neg e] at hst
          have q3 := u8_ne e
          have hf : behind l m = n := by rw [H3.out, hst]; rfl
          have HF := Lib.hid hf; clear hf hst e
          go_wp2
          go_quiet (fail)
          go_wp2
          go_ret
          exact ⟨by rw [HF.out]; rfl, Below.drewN hb _⟩
      · have hst := alike_end (l := l.reverse) (m := m.reverse) (n := n) (by rw [HLL.out, HML.out]; omega)
        have hf : behind l m = n := by rw [H3.out, hst]; rfl
        have HF := Lib.hid hf; clear hf hst
        go_wp2
        go_quiet (fail)
        go_wp2
        go_ret
        exact ⟨by rw [HF.out]; rfl, Below.drewN hb _⟩
    · have hst := alike_end (l := l.reverse) (m := m.reverse) (n := n) (by rw [HLL.out, HML.out]; omega)
      have hf : behind l m = n := by rw [H3.out, hst]; rfl
      have HF := Lib.hid hf; clear hf hst
      go_wp2
      go_quiet (fail)
      go_wp2
      go_ret
      exact ⟨by rw [HF.out]; rfl, Below.drewN hb _⟩
end Go.Proofs.Ytpfjkappgdpfbaa
