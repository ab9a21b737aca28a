/- left and mix of SHA-1 compute the functions of ShaP. Condition: words of thirty-two bits. -/
import Derived.Test.YtmfhlhjnfaiegaaDoorShaP
import Derived.Test.YtmfhlhjnfaiegaaDoorMemC
import Derived.Test.YtmfhlhjnfaiegaaDoorSeat
namespace Go.Proofs.YtmfhlhjnfaiegaaDoor
open Go.RowKit
set_option maxRecDepth 100000
set_option maxHeartbeats 4000000
set_option linter.unusedVariables false
theorem u32_or {a b : Nat} (ha : a < 4294967296) (hb : b < 4294967296) : bits .or .u32 (a : Int) (b : Int) = ((a ||| b : Nat) : Int) :=
  bits_or_nat .u32 32 (by decide) (fun n h0 h1 => by rw [IntKind.wrap_u32]; omega) ha hb
theorem u32_and {a b : Nat} (ha : a < 4294967296) (hb : b < 4294967296) : bits .and .u32 (a : Int) (b : Int) = ((a &&& b : Nat) : Int) :=
  (bits_nat .u32 32 (by decide) (fun n h0 h1 => by rw [IntKind.wrap_u32]; omega) a b ha hb).1
theorem u32_xor {a b : Nat} (ha : a < 4294967296) (hb : b < 4294967296) : bits .xor .u32 (a : Int) (b : Int) = ((a ^^^ b : Nat) : Int) := by
  have h := Nat.xor_lt_two_pow (n := 32) (x := a) (y := b) (by omega) (by omega)
  have e : (BitVec.ofInt 32 (a : Int) ^^^ BitVec.ofInt 32 (b : Int)).toNat = a ^^^ b := by
    rw [BitVec.ofInt_natCast, BitVec.ofInt_natCast, BitVec.toNat_xor, BitVec.toNat_ofNat, BitVec.toNat_ofNat, Nat.mod_eq_of_lt (by omega), Nat.mod_eq_of_lt (by omega)]
  show IntKind.u32.wrap ((BitVec.ofInt 32 (a : Int) ^^^ BitVec.ofInt 32 (b : Int)).toNat : Int) = _
  rw [e, IntKind.wrap_u32]; omega
theorem u32_not {a : Nat} (ha : a < 4294967296) : bits .xor .u32 IntKind.u32.max (a : Int) = ((not4 a : Nat) : Int) := by
  have h := u32_xor (a := 4294967295) (b := a) (by decide) ha
  have e : 4294967295 ^^^ a = not4 a := by
    unfold not4
    apply Nat.eq_of_testBit_eq
    intro i
    have h1 := Nat.testBit_two_pow_sub_succ (n := 32) ha i
    rw [show 2 ^ 32 - (a + 1) = 4294967295 - a by omega] at h1
    rw [h1, Nat.testBit_xor]
    have h2 : Nat.testBit 4294967295 i = decide (i < 32) := by
      have := Nat.testBit_two_pow_sub_one 32 i
      exact this
    rw [h2]
    by_cases hi : i < 32
    · simp [hi]
    · have : a.testBit i = false := Nat.testBit_lt_two_pow (Nat.lt_of_lt_of_le ha (Nat.pow_le_pow_right (n := 2) (by decide) (show 32 ≤ i by omega)))
      simp [hi, this]
  rw [← e]
  exact h
theorem rot_walk (x n p q : Nat) (hx : x < 4294967296) (hp : 2 ^ n = p) (hq : 2 ^ (32 - n) = q) : bits .or .u32 ((x : Int) * (p : Int) % 4294967296) ((x : Int) / (q : Int)) = (rotl x n : Nat) := by
  have h := u32_or (a := x * p % 4294967296) (b := x / q) (Nat.mod_lt _ (by decide)) (Nat.lt_of_le_of_lt (Nat.div_le_self _ _) hx)
  unfold rotl
  rw [hp, hq, ← h]
  simp
theorem left_any (x n : Nat) (hx : x < 4294967296) (hn : n = 1 ∨ n = 5 ∨ n = 30) (w : World) : Calls Tryd.prog 81 #[.int .u32 (x : Int), .int .i64 (n : Int)] w fun e w' => e = .returned (.int .u32 (rotl x n : Nat)) ∧ ∃ m, w' = w.drewN m := by
  rcases hn with rfl | rfl | rfl
  · have hr := rot_walk x 1 2 2147483648 hx rfl rfl
    simp at hr
    go_enter Tryd.func81, Tryd.ntmps81
    go_wp2
    go_quiet (fail)
    go_wp2
    go_ret
    exact ⟨rfl, _, rfl⟩
  · have hr := rot_walk x 5 32 134217728 hx rfl rfl
    simp at hr
    go_enter Tryd.func81, Tryd.ntmps81
    go_wp2
    go_quiet (fail)
    go_wp2
    go_ret
    exact ⟨rfl, _, rfl⟩
  · have hr := rot_walk x 30 1073741824 4 hx rfl rfl
    simp at hr
    go_enter Tryd.func81, Tryd.ntmps81
    go_wp2
    go_quiet (fail)
    go_wp2
    go_ret
    exact ⟨rfl, _, rfl⟩
theorem mix_any (t b c d : Nat) (ht : t < 80) (hb : b < 4294967296) (hc : c < 4294967296) (hd : d < 4294967296) (w : World) :
    Calls Tryd.prog 82 #[.int .i64 (t : Int), .int .u32 (b : Int), .int .u32 (c : Int), .int .u32 (d : Int)] w fun e w' => e = .returned (.tuple #[.int .u32 (mixF t b c d : Nat), .int .u32 (mixK t : Nat)]) ∧ w = w' := by
  have e1 := u32_and hb hc
  have e2 := u32_not hb
  have e3 := u32_and (not4_lt b) hd
  have e4 := u32_or (and_lt (b := c) hb) (and_lt (b := d) (not4_lt b))
  have x1 := u32_xor hb hc
  have x2 := u32_xor (xor_lt hb hc) hd
  have m1 := u32_and hb hd
  have m2 := u32_or (and_lt (b := c) hb) (and_lt (b := d) hb)
  have m3 := u32_and hc hd
  have m4 := u32_or (or_lt (and_lt (b := c) hb) (and_lt (b := d) hb)) (and_lt (b := d) hc)
  have q : t / 20 = 0 ∨ t / 20 = 1 ∨ t / 20 = 2 ∨ t / 20 = 3 := by omega
  unfold mixF mixK
  rcases q with q | q | q | q
  · rw [if_pos q, if_pos q]
    have qi : ((t : Int) / 20) = 0 := by omega
    have Q := Lib.hid q
    clear q x1 x2 m1 m2 m3 m4
    go_enter Tryd.func82, Tryd.ntmps82
    go_wp2
    go_ret2
    exact ⟨rfl, rfl⟩
  · rw [if_neg (by omega), if_pos q, if_neg (by omega), if_pos q]
    have qi : ((t : Int) / 20) = 1 := by omega
    have Q := Lib.hid q
    clear q e1 e2 e3 e4 m1 m2 m3 m4
    go_enter Tryd.func82, Tryd.ntmps82
    go_wp2
    go_ret2
    exact ⟨rfl, rfl⟩
  · rw [if_neg (by omega), if_neg (by omega), if_pos q, if_neg (by omega), if_neg (by omega), if_pos q]
    have qi : ((t : Int) / 20) = 2 := by omega
    have Q := Lib.hid q
    clear q e2 e3 e4 x1 x2
    go_enter Tryd.func82, Tryd.ntmps82
    go_wp2
    go_ret2
    exact ⟨rfl, rfl⟩
  · rw [if_neg (by omega), if_neg (by omega), if_neg (by omega), if_neg (by omega), if_neg (by omega), if_neg (by omega)]
    have qi : ((t : Int) / 20) = 3 := by omega
    have Q := Lib.hid q
    clear q e1 e2 e3 e4 m1 m2 m3 m4
    go_enter Tryd.func82, Tryd.ntmps82
    go_wp2
    go_ret2
    exact ⟨rfl, rfl⟩
end Go.Proofs.YtmfhlhjnfaiegaaDoor
