/- sort.Sort of two equal names. No condition. -/
import Derived.Test.YtjiiploleinobaaOidG
namespace Go.Proofs.Ytjiiploleinobaa
open Go.RowKit
set_option maxRecDepth 100000
set_option maxHeartbeats 4000000
set_option linter.unusedVariables false
theorem ins_two (S : Value) (w : World) (h : ∀ W, Below w.heap.size w W → Calls Try.prog 81 #[S, .int .i64 1, .int .i64 0] W fun e w' => e = .returned (.bool false) ∧ Below W.heap.size W w') :
    Calls Try.prog 49 #[.iface 64 S, .int .i64 0, .int .i64 2] w fun e w' => e = .returned (.tuple #[]) ∧ Below w.heap.size w w' := by
  have mS : ∀ (w : World), (method 213 64 S "Less").run Try.prog w = .ok (81, S) w := fun w => by kernel_rfl
  have cS : ∀ (w : World), (callFunc 81 #[S, .int .i64 1, .int .i64 0]).run Try.prog w = .ok (.enter 81 #[S, .int .i64 1, .int .i64 0]) w := fun w => by kernel_rfl
  have H := Lib.hid h
  clear h
  go_enter Try.func49, Try.ntmps49
  go_wp2
  go_loopw [6] (fun t6 wr => (t6 = .int .i64 1 ∨ t6 = .int .i64 2) ∧ Below w.heap.size w wr) (fun t6 _ => 2 - (intOf t6).toNat)
  case atStart => exact ⟨.inl rfl, Below.refl _ _⟩
  case round =>
    obtain ⟨rfl | rfl, hb⟩ := hrel
    · have k1 := H.out wr hb
      go_wp2
      go_loopw [7] (fun t7 wq => t7 = .int .i64 1 ∧ wq = wr) (fun t7 _ => 2 - (intOf t7).toNat)
      case atStart => exact ⟨rfl, rfl⟩
      case round =>
        obtain ⟨rfl, rfl⟩ := hrel
        go_wp2_with (go_at_call 81; (with_reducible refine k1.mono ?_); rintro e w1 ⟨rfl, hb1⟩)
        go_roundw
        case rel => exact ⟨.inr rfl, hb.trans (hb1.mono hb.size)⟩
        case measure => simp [intOf]
    · go_wp2
      go_end0
      exact ⟨rfl, hb⟩
theorem pdq_two (S : Value) (w : World) (h : ∀ W, Below w.heap.size w W → Calls Try.prog 81 #[S, .int .i64 1, .int .i64 0] W fun e w' => e = .returned (.bool false) ∧ Below W.heap.size W w') :
    Calls Try.prog 44 #[.iface 64 S, .int .i64 0, .int .i64 2, .int .i64 2] w fun e w' => e = .returned (.tuple #[]) ∧ Below w.heap.size w w' := by
  have ki := ins_two S w h
  clear h
  go_enter Try.func44, Try.ntmps44
  go_wp2
  go_loopw [1, 2] (fun t1 t2 wr => t1 = .int .i64 0 ∧ t2 = .int .i64 2 ∧ wr = w) (fun t1 _ _ => 2 - (intOf t1).toNat)
  case atStart => exact ⟨rfl, rfl, rfl⟩
  case round =>
    obtain ⟨rfl, rfl, rfl⟩ := hrel
    go_wp2_with (go_at_call 49; (with_reducible refine ki.mono ?_); rintro e w1 ⟨rfl, hb1⟩)
    (try simp only [Exit.inBlock, Exit.then])
    refine bodyPost_ret (results_none rfl _ _ _) rfl ?_
    exact ⟨rfl, hb1⟩
theorem len_two (w : World) : Calls Try.prog 43 #[.int .u64 2] w fun e w' => e = .returned (.int .i64 2) ∧ w = w' := by
  go_enter Try.func43, Try.ntmps43
  go_wp2
  go_ret
  exact ⟨by kernel_rfl, rfl⟩
theorem len80 (A : Option Addr) (n c : Nat) (w : World) : Calls Try.prog 80 #[.slice A n c] w fun e w' => e = .returned (.int .i64 n) ∧ w = w' := by
  go_enter Try.func80, Try.ntmps80
  go_wp2
  go_ret
  exact ⟨rfl, rfl⟩
theorem sort_S (A : Option Addr) (c : Nat) (w : World) (h : ∀ W, Below w.heap.size w W → Calls Try.prog 81 #[.slice A 2 c, .int .i64 1, .int .i64 0] W fun e w' => e = .returned (.bool false) ∧ Below W.heap.size W w') :
    Calls Try.prog 31 #[.iface 64 (.slice A 2 c)] w fun e w' => e = .returned (.tuple #[]) ∧ Below w.heap.size w w' := by
  have kp := pdq_two (.slice A 2 c) w h
  have kl := len80 A 2 c w
  have kb := len_two w
  have mS : ∀ (w : World), (method 213 64 (.slice A 2 c) "Len").run Try.prog w = .ok (80, .slice A 2 c) w := fun w => by kernel_rfl
  have cS : ∀ (w : World), (callFunc 80 #[.slice A 2 c]).run Try.prog w = .ok (.enter 80 #[.slice A 2 c]) w := fun w => by kernel_rfl
  clear h
  go_enter Try.func31, Try.ntmps31
  go_wp2_with (first
   | (go_at_call 80; (with_reducible refine kl.mono ?_); rintro e w1 ⟨rfl, rfl⟩)
   | (go_at_call 43; (with_reducible refine kb.mono ?_); rintro e w1 ⟨rfl, rfl⟩)
   | (go_at_call 44; (with_reducible refine kp.mono ?_); rintro e w1 ⟨rfl, hb1⟩))
  go_end0
  exact ⟨rfl, hb1⟩
end Go.Proofs.Ytjiiploleinobaa
