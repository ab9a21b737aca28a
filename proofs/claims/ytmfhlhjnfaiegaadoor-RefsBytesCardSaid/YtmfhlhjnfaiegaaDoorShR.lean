/- The reference's SHA-1: left, word, block compute the functions of ShaP. Condition: a block has sixty-four bytes. -/
import Derived.Test.YtmfhlhjnfaiegaaDoorShaB
namespace Go.Proofs.YtmfhlhjnfaiegaaDoor
open Go.RowKit
set_option maxRecDepth 100000
set_option maxHeartbeats 4000000
set_option linter.unusedVariables false
theorem leftR_any (x n : Nat) (hx : x < 4294967296) (hn : n = 1 ∨ n = 5 ∨ n = 30) (w : World) : Calls Tryd.prog 71 #[.int .u32 (x : Int), .int .u64 (n : Int)] w fun e w' => e = .returned (.int .u32 (rotl x n : Nat)) ∧ w = w' := by
  rcases hn with rfl | rfl | rfl
  · have hr := rot_walk x 1 2 2147483648 hx rfl rfl
    simp at hr
    go_enter Tryd.func71, Tryd.ntmps71
    go_wp2
    go_ret
    exact ⟨rfl, rfl⟩
  · have hr := rot_walk x 5 32 134217728 hx rfl rfl
    simp at hr
    go_enter Tryd.func71, Tryd.ntmps71
    go_wp2
    go_ret
    exact ⟨rfl, rfl⟩
  · have hr := rot_walk x 30 1073741824 4 hx rfl rfl
    simp at hr
    go_enter Tryd.func71, Tryd.ntmps71
    go_wp2
    go_ret
    exact ⟨rfl, rfl⟩
theorem or_mul (a b k : Nat) : a * 2 ^ k ||| b * 2 ^ k = (a ||| b) * 2 ^ k := by
  rw [← Nat.shiftLeft_eq, ← Nat.shiftLeft_eq, ← Nat.shiftLeft_eq, Nat.shiftLeft_or_distrib]
theorem be4_or (a b c d : Nat) (ha : a < 256) (hb : b < 256) (hc : c < 256) (hd : d < 256) : a * 16777216 ||| b * 65536 ||| c * 256 ||| d = a * 16777216 + b * 65536 + c * 256 + d := by
  have e1 : a * 16777216 ||| b * 65536 = (a * 256 ||| b) * 65536 := by
    rw [show 16777216 = 256 * 2 ^ 16 from rfl, show 65536 = 2 ^ 16 from rfl, ← Nat.mul_assoc, or_mul]
  have e2 : (a * 256 ||| b) * 65536 ||| c * 256 = ((a * 256 ||| b) * 256 ||| c) * 256 := by
    rw [show 65536 = 256 * 2 ^ 8 from rfl, show (256 : Nat) = 2 ^ 8 from rfl, ← Nat.mul_assoc, or_mul]
  rw [e1, e2, or_byte hb, or_byte hc, or_byte hd]
  omega
theorem word_walk (b0 b1 b2 b3 y3 : Nat) (h0 : b0 < 256) (h1 : b1 < 256) (h2 : b2 < 256) (h3 : b3 < 256) (hfin : Hid (bits .or .u32 (bits .or .u32 (bits .or .u32 ((b0 : Int) * 16777216) ((b1 : Int) * 65536)) ((b2 : Int) * 256)) (b3 : Int) = (y3 : Int))) (ad : Addr) (n c : Nat) (hn : 4 ≤ n) (w : World)
    (c0 : w.cell? ad = some (.int .u8 (b0 : Int))) (c1 : w.cell? (ad.add 1) = some (.int .u8 (b1 : Int))) (c2 : w.cell? (ad.add 2) = some (.int .u8 (b2 : Int))) (c3 : w.cell? (ad.add 3) = some (.int .u8 (b3 : Int))) :
    Calls Tryd.prog 70 #[.slice (some ad) n c] w fun e w' => e = .returned (.int .u32 (y3 : Int)) ∧ ∃ m, w' = w.drewN m := by
  have ld : ∀ (a : Addr) (b : Nat), w.cell? a = some (.int .u8 (b : Int)) → ∀ w', (∃ n, w' = w.drewN n) → (loadVar 5 a).run Tryd.prog w' = .ok (.int .u8 (b : Int)) w' := fun a b h w' hw => by
    obtain ⟨n, rfl⟩ := hw
    have hT : (isAgg 5).run Tryd.prog (w.drewN n) = .ok false (w.drewN n) := by kernel_rfl
    have h2 : (w.drewN n).cell? a = some (.int .u8 (b : Int)) := h
    simp [loadVar, Sem.run_bind, hT, run_load, h2]
  have L0 := ld _ _ c0; have L1 := ld _ _ c1; have L2 := ld _ _ c2; have L3 := ld _ _ c3
  go_enter Tryd.func70, Tryd.ntmps70
  go_wp2
  refine wp_region_quietC (C := fun w' => ∃ n, w' = w.drewN n) ⟨1, rfl⟩ (by kernel_rfl) (by kernel_rfl) ?_
  repeat (first
    | (refine wpQuiet_load 5 (.tmp 4) rfl ad rfl _ L0 _ rfl rfl ?_; simp only [List.set_cons_succ, List.set_cons_zero])
    | (refine wpQuiet_load 5 (.tmp 9) rfl (ad.add 1) rfl _ L1 _ rfl rfl ?_; simp only [List.set_cons_succ, List.set_cons_zero])
    | (refine wpQuiet_load 5 (.tmp 15) rfl (ad.add 2) rfl _ L2 _ rfl rfl ?_; simp only [List.set_cons_succ, List.set_cons_zero])
    | (refine wpQuiet_load 5 (.tmp 21) rfl (ad.add 3) rfl _ L3 _ rfl rfl ?_; simp only [List.set_cons_succ, List.set_cons_zero])
    | go_big_quiet_step (fail))
  refine wpQuiet_nil ?_
  rintro w' ⟨m, rfl⟩
  go_wp2
  go_ret
  exact ⟨by rw [← hfin.out]; rfl, _, rfl⟩
theorem addr_add0 (ad : Addr) : ad.add 0 = ad := by unfold Addr.add; split <;> simp_all
theorem mul_u32 (b k : Nat) (h : b < 256) (hk : k ≤ 16777216) : b * k < 4294967296 := by
  have h1 : b * k ≤ 255 * 16777216 := Nat.mul_le_mul (by omega) hk
  omega
theorem wordR_any (q : List UInt8) (hq : 4 ≤ q.length) (A : Option Addr) (c : Nat) (w : World) (hA : Bs w A q) :
    Calls Tryd.prog 70 #[.slice A q.length c] w fun e w' => e = .returned (.int .u32 (be4 q 0 : Nat)) ∧ ∃ m, w' = w.drewN m := by
  have hb : ∀ j, j < 4 → ∃ ad, A = some ad ∧ w.cell? (ad.add j) = some (.int .u8 ((byteN q j : Nat) : Int)) := fun j hj => by
    obtain ⟨ad, e, h⟩ := hA.at (j := j) (by omega)
    refine ⟨ad, e, ?_⟩
    rw [h]
    unfold byteN
    rw [List.getD_eq_getElem?_getD, List.getElem?_eq_getElem (by omega)]; rfl
  obtain ⟨ad, rfl, c0⟩ := hb 0 (by omega)
  obtain ⟨_, e, c1⟩ := hb 1 (by omega)
  injection e with e; subst e
  obtain ⟨_, e, c2⟩ := hb 2 (by omega)
  injection e with e; subst e
  obtain ⟨_, e, c3⟩ := hb 3 (by omega)
  injection e with e; subst e
  have h0 := byteN_lt q 0; have h1 := byteN_lt q 1; have h2 := byteN_lt q 2; have h3 := byteN_lt q 3
  have hbe : be4 q 0 = byteN q 0 * 16777216 + byteN q 1 * 65536 + byteN q 2 * 256 + byteN q 3 := rfl
  rw [hbe, ← be4_or _ _ _ _ h0 h1 h2 h3]
  have l0 := mul_u32 (byteN q 0) 16777216 h0 (Nat.le_refl _)
  have l1 := mul_u32 (byteN q 1) 65536 h1 (by decide)
  have l2 := mul_u32 (byteN q 2) 256 h2 (by decide)
  have hfin : bits .or .u32 (bits .or .u32 (bits .or .u32 ((byteN q 0 : Int) * 16777216) ((byteN q 1 : Int) * 65536)) ((byteN q 2 : Int) * 256)) (byteN q 3 : Int) = ((byteN q 0 * 16777216 ||| byteN q 1 * 65536 ||| byteN q 2 * 256 ||| byteN q 3 : Nat) : Int) := by
    rw [show (byteN q 0 : Int) * 16777216 = ((byteN q 0 * 16777216 : Nat) : Int) from (Int.natCast_mul _ 16777216).symm, show (byteN q 1 : Int) * 65536 = ((byteN q 1 * 65536 : Nat) : Int) from (Int.natCast_mul _ 65536).symm, show (byteN q 2 : Int) * 256 = ((byteN q 2 * 256 : Nat) : Int) from (Int.natCast_mul _ 256).symm,
      u32_or l0 l1, u32_or (or_lt l0 l1) l2, u32_or (or_lt (or_lt l0 l1) l2) (Nat.lt_trans h3 (by decide))]
  exact word_walk _ _ _ _ _ h0 h1 h2 h3 (Lib.hid hfin) ad q.length c hq w (by rwa [addr_add0] at c0) c1 c2 c3
end Go.Proofs.YtmfhlhjnfaiegaaDoor
