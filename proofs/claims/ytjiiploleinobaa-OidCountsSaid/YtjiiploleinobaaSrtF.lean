/- bits.Len of a number below 256, nextPowerOfTwo, xorshift's Next. Conditions: the number is below 256. -/
import Derived.Test.YtjiiploleinobaaSrtA
import Derived.Sort.LotD5
import Derived.Laws.Bits64
namespace Go.Proofs.Ytjiiploleinobaa
open Go.RowKit
open Go.Sort (bitsLen xorNextN xorNext_toNat xorNextN_lt bitsLen_le_iff)
set_option maxRecDepth 1000000
set_option maxHeartbeats 4000000
set_option linter.unusedVariables false
/-- a byte of a constant text -/
theorem wpList_tab {P : Program} {w : World} {ops : Array Oper} {rest : List Oper} {o : Oper} {a : Act} {Q : Exit → Act → World → Prop} (hgd : o.guard = none) (ty : TypeId) (s : ByteArray) (x : Operand) (ho : o.op = .index ty (.const (.string s)) x)
    (k : Nat) (hx : a.eval x = .int .u8 (k : Int)) (hty : P.underlying ty = some .string) (c : UInt8) (v : Nat) (hv : c.toNat = v) (hc : s[k]? = some c)
    (h : wpList P ops Q rest (a.put o.dst (.int .u8 (v : Int))) w) : wpList P ops Q (o :: rest) a w := by
  subst hv
  refine wpList_plain hgd fun K hK => ?_
  unfold Oper.wp execOp
  have : (Instr.index ty (.string s) (.int .u8 (k : Int))).run P w = .ok (.int .u8 (c.toNat : Int)) w := by simp [Instr.index, asIntOf, run_underlying hty, hc]
  have hcs : a.eval (.const (.string s)) = .string s := rfl
  simp only [ho, hx, hcs, this, Sem.run_bind, Sem.run_pure, Result.andThen_ok]
  exact hK _ _ h
theorem tab_all (s : ByteArray) (h : ∀ k < 256, s[k]? = some (UInt8.ofNat (bitsLen k))) (x : Nat) (hx : x < 256) : s[x]? = some (UInt8.ofNat (bitsLen x)) := h x hx
theorem bitsLen_256 (x : Nat) (hx : x < 256) : bitsLen x ≤ 8 := (bitsLen_le_iff x 8).2 (by omega)
theorem len64_any (x : Nat) (hx : x < 256) (w : World) : Calls Try.prog 48 #[.int .u64 (x : Int)] w fun e w' => e = .returned (.int .i64 (bitsLen x : Nat)) ∧ w' = w := by
  have hb := bitsLen_256 x hx
  have hv : (UInt8.ofNat (bitsLen x)).toNat = bitsLen x := by simp; omega
  have HV := Lib.hid hv
  obtain ⟨v, hvv⟩ : ∃ v, v = bitsLen x := ⟨_, rfl⟩
  have HB : v ≤ 8 := by omega
  have HVV := Lib.hid hvv
  obtain ⟨z, hz⟩ : ∃ z : Int, z = (x : Int) := ⟨_, rfl⟩
  have g1 : decide (4294967296 ≤ z) = false := by rw [hz]; exact decide_eq_false (by omega)
  have g2 : decide (65536 ≤ z) = false := by rw [hz]; exact decide_eq_false (by omega)
  have g3 : decide (256 ≤ z) = false := by rw [hz]; exact decide_eq_false (by omega)
  have g4 : IntKind.u8.wrap z = z := by rw [hz, IntKind.wrap_u8]; omega
  have HX := Lib.hid hx
  rw [← hz]
  have HZ := Lib.hid hz
  clear hvv hv hb hz hx
  rw [← HVV.out]
  go_enter Try.func48, Try.ntmps48
  go_upto_region 10 with (fail)
  go_wp2_with (refine wpList_tab rfl 9 _ (.tmp 21) rfl x (congrArg (Value.int IntKind.u8) HZ.out) Try.underlying9 (UInt8.ofNat (bitsLen x)) v (HV.out.trans HVV.out.symm) (tab_all _ (by decide +kernel) x HX.out) ?_)
  go_ret
  exact ⟨rfl, rfl⟩
theorem len_any (x : Nat) (hx : x < 256) (w : World) : Calls Try.prog 43 #[.int .u64 (x : Int)] w fun e w' => e = .returned (.int .i64 (bitsLen x : Nat)) ∧ w' = w := by
  have k := len64_any x hx w
  go_enter Try.func43, Try.ntmps43
  go_wp2_with (go_at_call 48; (with_reducible refine k.mono ?_); rintro e w1 ⟨rfl, rfl⟩)
  go_ret
  exact ⟨rfl, rfl⟩
theorem two_pow (v : Nat) (hv : v ≤ 8) : IntKind.u64.wrap ((2 : Int) ^ v) = ((1 <<< v : Nat) : Int) := by
  have : ∀ v < 9, IntKind.u64.wrap ((2 : Int) ^ v) = ((1 <<< v : Nat) : Int) := by decide +kernel
  exact this v (by omega)
theorem next_any (x : Nat) (hx : x < 256) (w : World) : Calls Try.prog 58 #[.int .i64 (x : Int)] w fun e w' => e = .returned (.int .u64 ((1 <<< bitsLen x : Nat) : Int)) ∧ w' = w := by
  have k := len_any x hx w
  have hb := bitsLen_256 x hx
  have hp := two_pow _ hb
  obtain ⟨v, hvv⟩ : ∃ v, v = bitsLen x := ⟨_, rfl⟩
  rw [← hvv] at k hb hp ⊢
  clear hvv
  have wr : IntKind.u64.wrap (x : Int) = x := by rw [IntKind.wrap_u64]; omega
  go_enter Try.func58, Try.ntmps58
  go_wp2_with (go_at_call 43; (with_reducible refine k.mono ?_); rintro e w1 ⟨rfl, rfl⟩)
  go_ret
  exact ⟨rfl, rfl⟩
theorem xor_eq (a b : Nat) (ha : a < 18446744073709551616) (hb : b < 18446744073709551616) (y : Int) (hy : y = (b : Int)) : bits .xor .u64 (a : Int) y = ((a ^^^ b : Nat) : Int) := by
  subst hy; exact bits_xor_u64_nat a b ha hb
theorem cell_put (w : World) (rb : Nat) (X A : Int) (h : w.heap[rb]? = some (.cells #[.int .u64 X] 89 (0, 0))) :
    (w.setCell ⟨rb, 0, none⟩ (.int .u64 A)).drew.heap[rb]? = some (.cells #[.int .u64 A] 89 (0, 0)) ∧ Kp (fun k => k = rb) w (w.setCell ⟨rb, 0, none⟩ (.int .u64 A)).drew ∧ w.drew.cell? ⟨rb, 0, none⟩ = some (.int .u64 X) ∧ w.drew.frozen? ⟨rb, 0, none⟩ = false := by
  have h' : w.drew.heap[rb]? = some (.cells #[.int .u64 X] 89 (0, 0)) := h
  refine ⟨?_, ((Kp.refl (fun k => k = rb) w).setCell (p := ⟨rb, 0, none⟩) (.inl rfl) _).drew, by rw [cell_of_row w.drew _ _ _ _ _ h]; rfl, frozen_of_row w.drew _ _ _ _ h⟩
  have := heap_setCell_same w rb 0 _ 89 (.int .u64 A) h
  exact this.trans (by simp)
/-- Next: the cell holds the next number, which is handed back -/
theorem next_xor (rb X : Nat) (hX : X < 18446744073709551616) (w : World) (h : w.heap[rb]? = some (.cells #[.int .u64 (X : Int)] 89 (0, 0))) :
    Calls Try.prog 59 #[.pointer (some ⟨rb, 0, none⟩)] w fun e w' => e = .returned (.int .u64 (xorNextN X : Nat)) ∧ w'.heap[rb]? = some (.cells #[.int .u64 (xorNextN X : Nat)] 89 (0, 0)) ∧ Kp (fun k => k = rb) w w' := by
  obtain ⟨A, hA⟩ : ∃ A : Nat, A = X ^^^ (X * 8192 % 18446744073709551616) := ⟨_, rfl⟩
  obtain ⟨B, hB⟩ : ∃ B : Nat, B = A ^^^ (A / 128) := ⟨_, rfl⟩
  obtain ⟨C, hC⟩ : ∃ C : Nat, C = B ^^^ (B * 131072 % 18446744073709551616) := ⟨_, rfl⟩
  have lA : A < 18446744073709551616 := by rw [hA]; exact Nat.xor_lt_two_pow (n := 64) (by omega) (by omega)
  have lB : B < 18446744073709551616 := by rw [hB]; exact Nat.xor_lt_two_pow (n := 64) (by omega) (by omega)
  have hv : xorNextN X = C := by unfold xorNextN; simp only []; rw [← hA, ← hB, ← hC]
  rw [hv]
  have e1 : bits .xor .u64 (X : Int) (IntKind.u64.wrap ((X : Int) * 8192)) = (A : Int) := by
    rw [hA]; exact xor_eq _ _ hX (by omega) _ (by rw [IntKind.wrap_u64]; omega)
  have e2 : bits .xor .u64 (A : Int) ((A : Int) / 128) = (B : Int) := by
    rw [hB]; exact xor_eq _ _ lA (by omega) _ (by omega)
  have e3 : bits .xor .u64 (B : Int) (IntKind.u64.wrap ((B : Int) * 131072)) = (C : Int) := by
    rw [hC]; exact xor_eq _ _ lB (by omega) _ (by rw [IntKind.wrap_u64]; omega)
  clear hA hB hC hv lA lB hX
  obtain ⟨h1, k1, c0, f0⟩ := cell_put w rb (X : Int) (A : Int) h
  clear h
  have H1 := Lib.hid h1
  clear h1
  go_enter Try.func59, Try.ntmps59
  go_upto_region 1 with (fail)
  go_still_tail 9, (by kernel_rfl)
  change wpList _ _ _ _ _ w.drew
  go_upto_region 2 with (fail)
  generalize (w.setCell ⟨rb, 0, none⟩ (.int .u64 (A : Int))).drew = w1 at H1 k1 ⊢
  clear c0 f0
  obtain ⟨h2, k2, c0, f0⟩ := cell_put w1 rb (A : Int) (B : Int) H1.out
  have H2 := Lib.hid h2
  clear h2 H1
  go_still_tail 9, (by kernel_rfl)
  change wpList _ _ _ _ _ w1.drew
  go_upto_region 3 with (fail)
  generalize (w1.setCell ⟨rb, 0, none⟩ (.int .u64 (B : Int))).drew = w2 at H2 k2 ⊢
  clear c0 f0
  obtain ⟨h3, k3, c0, f0⟩ := cell_put w2 rb (B : Int) (C : Int) H2.out
  have H3 := Lib.hid h3
  clear h3 H2
  go_still_tail 9, (by kernel_rfl)
  change wpList _ _ _ _ _ w2.drew
  go_upto_region 4 with (fail)
  generalize (w2.setCell ⟨rb, 0, none⟩ (.int .u64 (C : Int))).drew = w3 at H3 k3 ⊢
  clear c0 f0
  have c0 : w3.cell? ⟨rb, 0, none⟩ = some (.int .u64 (C : Int)) := by rw [cell_of_row w3 _ _ _ _ _ H3.out]; rfl
  go_wp2
  go_ret
  exact ⟨rfl, H3.out, Kp.trans (Kp.trans k1 k2) k3⟩
end Go.Proofs.Ytjiiploleinobaa
