/- The maker's run writes steps that tell the target. Condition: base and target have at most 2^28 bytes. -/
import Derived.Test.YtpfjkappgdpfbaaDelC
import Derived.Test.YtpfjkappgdpfbaaDelD
import Derived.Test.YtpfjkappgdpfbaaDelL
import Derived.StillTailTactics
namespace Go.Proofs.Ytpfjkappgdpfbaa
set_option linter.unusedVariables false
open Go.RowKit
open Go.ChangeMaps Go.MapKept Go.ChangeShapes Go.Maps
set_option maxRecDepth 100000
set_option maxHeartbeats 4000000
theorem step_appW22' {ops : Array Oper} {o : Oper} {a : Act} {w : World} {K : Act → World → Prop} {Q : Exit → Act → World → Prop} {E : Prop} (hg : o.guard = none) (s x : Operand)
    (ho : o.op = .call { callee := .builtin .append, args := #[s, x], argTypes := #[22, 22] })
    (B : Nat) (v : Value) (l : List UInt8) (hs : a.eval s = v) (hown : WinB w B 5 v l) (A : Option Addr) (c : Nat) (m : List UInt8) (hx : a.eval x = .slice A m.length c) (hA : Bs w A m)
    (hb : l.length + m.length ≤ 140737488351232) (hB : B ≤ w.heap.size)
    (hK : ∀ v' w', WinB w' B 5 v' (l ++ m) → Kp (fun k => v.ownBlock = some k) w w' → (v'.ownBlock = v.ownBlock ∨ v'.ownBlock = some w.heap.size) → K (a.put o.dst v') w') :
    if Region.wanted o (yielded ops a.tmps) = true then Oper.wp Try.prog o a w K Q else E := by
  have hw : Region.wanted o (yielded ops a.tmps) = true := by simp [Region.wanted, hg]
  rw [if_pos hw]
  obtain ⟨v', w', hrun, h1, h2, h3⟩ := run_appW (P := Try.prog) B 22 22 o.type 5 (.int .u8 0) 1 1 Try.underlying22 Try.info5 rfl (by decide) v l.length (bvs l) hown (.slice A m.length c) m.length (bvs m) (srcOf Try.underlying22 (by decide) (by simp) hA (bvs_one m)) (by omega) (by unfold maxLen; omega) hB
  unfold Oper.wp
  simp [execOp, ho, resolve, invoke, builtin, hs, hx, hrun, Result.andThen]
  exact hK v' w' (by rw [WinB, List.length_append, bvs_append]; exact h1) h2 h3
/-- more waits -/
theorem Mk.waited {B mb : Nat} {F : Nat → Prop} {vb vm vo vw v' : Value} {x y y' : List UInt8} {w w1 w2 : World} (hmb : B ≤ mb) (hFm : ¬ F mb) (hF : ∀ g, F g → g < w.heap.size) (h1 : w.heap[mb]? = some (.cells #[vb, vm, vo, vw] 86 (0, 0)))
    (h2 : WinB w B 5 vo x) (h3 : WinB w B 5 vw y) (h4 : ¬ vo.ownBlock = some mb) (h5 : ¬ vw.ownBlock = some mb) (h6 : ∀ g, vo.ownBlock = some g → ¬ vw.ownBlock = some g) (h7 : ∀ g, vo.ownBlock = some g → ¬ F g) (h8 : ∀ g, vw.ownBlock = some g → ¬ F g)
    (hb : Below w.heap.size w w1) (hk : Kp (fun k => vw.ownBlock = some k) w1 w2) (ho : v'.ownBlock = vw.ownBlock ∨ v'.ownBlock = some w1.heap.size) (hw : WinB w2 B 5 v' y') :
    w2.cell? ⟨mb, 3, none⟩ = some vw ∧ w2.frozen? ⟨mb, 3, none⟩ = false ∧ Mk B mb F vb vm x y' (w2.setCell ⟨mb, 3, none⟩ v') ∧ Kq B F w (w2.setCell ⟨mb, 3, none⟩ v') := by
  have hml : mb < w.heap.size := (Array.getElem?_eq_some_iff.1 h1).1
  have r2 : w2.heap[mb]? = some (.cells #[vb, vm, vo, vw] 86 (0, 0)) := (hk.block mb (Nat.lt_of_lt_of_le hml hb.size) h5).trans ((hb.block mb hml).trans h1)
  have ho' : v'.ownBlock = vw.ownBlock ∨ ∃ k, v'.ownBlock = some k ∧ w.heap.size ≤ k := ho.imp id (fun h => ⟨_, h, hb.size⟩)
  have hn : ¬ v'.ownBlock = some mb := own_far h5 hml ho'
  refine ⟨by rw [cell_of_row _ _ _ _ _ _ r2]; rfl, frozen_of_row _ _ _ _ _ r2, ⟨vo, v', ?_, ?_, WinB.setNe hw hn, h4, hn, ?_, h7, ?_⟩, ?_⟩
  · have := heap_setCell_same w2 mb 3 _ 86 v' r2
    simpa using this
  · exact WinB.setNe (Win.kp (Win.below h2 hb) hk (fun g hg h => h6 g hg h)) h4
  · intro g hg e
    rcases ho' with h | ⟨k, h, hk'⟩
    · rw [h] at e; exact h6 g hg e
    · rw [h] at e; injection e with e; subst e
      have := (Win.block h2 k hg).2
      omega
  · intro g hg
    rcases ho' with h | ⟨k, h, hk'⟩
    · rw [h] at hg; exact h8 g hg
    · rw [h] at hg; injection hg with hg; subst hg
      intro h
      have := hF k h
      omega
  · exact ((Kp.ofBelow hb).step hk (fun i _ h => ⟨(Win.block h3 i h).1, h8 i h⟩)).setCell (p := ⟨mb, 3, none⟩) (Or.inl ⟨hmb, hFm⟩) _
/-- less waits -/
theorem Mk.less {B mb : Nat} {F : Nat → Prop} {vb vm vo : Value} {x y : List UInt8} {A : Option Addr} {c k : Nat} {w : World} (hmb : B ≤ mb) (hFm : ¬ F mb) (h1 : w.heap[mb]? = some (.cells #[vb, vm, vo, .slice A y.length c] 86 (0, 0)))
    (h2 : WinB w B 5 vo x) (h3 : WinB w B 5 (.slice A y.length c) y) (h4 : ¬ vo.ownBlock = some mb) (h5 : ¬ (Value.slice A y.length c).ownBlock = some mb) (h6 : ∀ g, vo.ownBlock = some g → ¬ (Value.slice A y.length c).ownBlock = some g) (h7 : ∀ g, vo.ownBlock = some g → ¬ F g) (h8 : ∀ g, (Value.slice A y.length c).ownBlock = some g → ¬ F g)
    (hk : k ≤ y.length) : Mk B mb F vb vm x (y.take k) (w.setCell ⟨mb, 3, none⟩ (.slice A k c)) ∧ Kq B F w (w.setCell ⟨mb, 3, none⟩ (.slice A k c)) := by
  have e0 : ∀ n m, (Value.slice A n c).ownBlock = (Value.slice A m c).ownBlock := fun n m => by cases A <;> rfl
  have hl : (y.take k).length = k := by simp; omega
  refine ⟨⟨vo, .slice A k c, ?_, WinB.setNe h2 h4, ?_, h4, by rw [e0 k y.length]; exact h5, fun g hg => by rw [e0 k y.length]; exact h6 g hg, h7, fun g hg => h8 g (by rw [e0 y.length k]; exact hg)⟩, (Kp.refl _ _).setCell (p := ⟨mb, 3, none⟩) (Or.inl ⟨hmb, hFm⟩) _⟩
  · have := heap_setCell_same w mb 3 _ 86 (.slice A k c) h1
    simpa using this
  · have h := Win.take h3 hk
    have e : (bvs y).take (k * 1) = bvs (y.take k) := by unfold bvs; rw [List.map_take, Nat.mul_one]
    rw [e] at h
    have h' : WinB w B 5 (.slice A k c) (y.take k) := by unfold WinB; rw [hl]; exact h
    exact WinB.setNe h' (by rw [e0 k y.length]; exact h5)
theorem best_zs (mb : Nat) (Ab : Option Addr) (cb : Nat) (base : List UInt8) (vm vo : Value) (Aw : Option Addr) (wl cw : Nat) (At : Option Addr) (ct : Nat) (target : List UInt8) (p : Nat) (Ap : Option Addr) (cp : Nat) (zs : List Int) (w : World)
    (hM : w.heap[mb]? = some (.cells #[.slice Ab base.length cb, vm, vo, .slice Aw wl cw] 86 (0, 0))) (hAb : Bs w Ab base) (hAt : Bs w At target) (hp : p ≤ target.length) (hwl : wl ≤ p) (hps : Sl w Ap (zs.map (Value.int .i64))) (hpb : ∀ z ∈ zs, 0 ≤ z ∧ z ≤ base.length)
    (hb : base.length ≤ 549755813888) (ht : target.length ≤ 549755813888) (hpl : zs.length ≤ 1099511627776) :
    Calls Try.prog 64 #[.pointer (some ⟨mb, 0, none⟩), .slice At target.length ct, .int .i64 p, .slice Ap zs.length cp] w fun e w' =>
      ∃ f b n : Nat, e = .returned (.tuple #[.int .i64 f, .int .i64 b, .int .i64 n]) ∧ BestP base target p wl f b n ∧ Below w.heap.size w w' := by
  have e : poss (zs.map Int.toNat) = zs.map (Value.int .i64) := by
    unfold poss
    rw [List.map_map]
    refine List.map_congr_left (fun z hz => ?_)
    have := hpb z hz
    simp only [Function.comp]
    rw [Int.toNat_of_nonneg this.1]
  have := best_any mb Ab cb base vm vo Aw wl cw At ct target p Ap cp (zs.map Int.toNat) w hM hAb hAt hp hwl (by rw [e]; exact hps) (fun i hi => by
    obtain ⟨z, hz, rfl⟩ := List.mem_map.1 hi
    have := hpb z hz
    omega) hb ht (by simp; omega)
  rwa [List.length_map] at this
theorem run_step {tx y target bs : List UInt8} {p b n : Nat} (h : tx ++ y = target.take p) (hp : p ≤ target.length) (hb : b ≤ y.length) (hn : p - b + n ≤ target.length) (hbp : b ≤ p) (e : bs = (target.drop (p - b)).take n) : tx ++ (y.take (y.length - b) ++ bs) = target.take (p + n - b) := by
  have hl := congrArg List.length h
  rw [List.length_append, List.length_take, Nat.min_eq_left hp] at hl
  have h2 : tx ++ y.take (y.length - b) = target.take (p - b) := by
    have := congrArg (List.take (p - b)) h
    rw [List.take_take, Nat.min_eq_left (by omega)] at this
    rw [← this, List.take_append, List.take_of_length_le (l := tx) (by omega), show p - b - tx.length = y.length - b by omega]
  rw [← List.append_assoc, h2, e, show p + n - b = p - b + n by omega, List.take_add]
theorem run_more {tx y target : List UInt8} {p : Nat} (h : tx ++ y = target.take p) (hp : p < target.length) : tx ++ (y ++ [target[p]]) = target.take (p + 1) := by
  rw [← List.append_assoc, h, List.take_succ_eq_append_getElem hp]
end Go.Proofs.Ytpfjkappgdpfbaa
