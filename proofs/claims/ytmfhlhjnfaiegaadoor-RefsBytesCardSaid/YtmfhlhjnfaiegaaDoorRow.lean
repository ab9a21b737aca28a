/- Rows of refs of the call's own: clip, clone, append, insert at the end, delete of the last. Conditions: twenty bytes each, at most 256 rows. -/
import Derived.Test.YtmfhlhjnfaiegaaDoorFnd
namespace Go.Proofs.YtmfhlhjnfaiegaaDoor
open Go.RowKit
set_option maxRecDepth 100000
set_option maxHeartbeats 1000000
set_option linter.unusedVariables false
theorem infoRef : (Tryd.prog.info? 47).map (fun i => (i.zero, i.size, i.bytes)) = some (some (rfv ([], zs20)), 21, 40) := by kernel_rfl
theorem sizeRef (w : World) : (sizeOf (Tryd.prog.elem 22)).run Tryd.prog w = .ok 21 w := by kernel_rfl
abbrev WinR (w : World) (B : Nat) (v : Value) (l : List Rf) : Prop := Win w B 47 21 v l.length (rfc l)
def OutR (l : List Rf) (w : World) (e : Ending) (w' : World) : Prop := ∃ v, e = .returned v ∧ WinR w' w.heap.size v l ∧ Below w.heap.size w w'
theorem rfc_app (l m : List Rf) : rfc (l ++ m) = rfc l ++ rfc m := by simp [rfc]
theorem WinR.empty {w : World} {B : Nat} (hB : B ≤ w.heap.size) : WinR (w.alloc (.cells #[] 47)) B (.slice (some ⟨w.heap.size, 0, none⟩) 0 0) [] :=
  ⟨by simp [rfc], .inr ⟨w.heap.size, 0, 0, #[], rfl, hB, heap_alloc_new _ _, by simp, by unfold maxLen; omega, by simp, by simp [rfc]⟩⟩
theorem appR {w : World} {ops : Array Oper} {rest : List Oper} {o : Oper} {a : Act} {Q : Exit → Act → World → Prop} (hgd : o.guard = none) (s x : Operand)
    (ho : o.op = .call { callee := .builtin .append, args := #[s, x], argTypes := #[22, 22] })
    (B : Nat) (v : Value) (l : List Rf) (hs : a.eval s = v) (hown : WinR w B v l) (A : Option Addr) (c : Nat) (m : List Rf) (h20 : Rf20 m) (hx : a.eval x = .slice A m.length c) (hA : Sl w A (rfc m))
    (hb : l.length + m.length ≤ 1024) (hB : B ≤ w.heap.size)
    (h : ∀ v' w', WinR w' B v' (l ++ m) → Kp (fun k => v.ownBlock = some k) w w' → (v'.ownBlock = v.ownBlock ∨ v'.ownBlock = some w.heap.size) → wpList Tryd.prog ops Q rest (a.put o.dst v') w') : wpList Tryd.prog ops Q (o :: rest) a w :=
  wpList_appW hgd s x 22 22 ho B 47 (rfv ([], zs20)) 21 40 Tryd.underlying22 infoRef rfl (by decide) v l.length (rfc l) hs hown (.slice A m.length c) m.length (rfc m) hx (srcOf Tryd.underlying22 (by decide) (rfc_len h20) hA (rfc_one m)) (by omega) (by unfold maxLen; omega) hB
    (fun v' w' h1 h2 h3 => h v' w' (by rw [WinR, List.length_append, rfc_app]; exact h1) h2 h3)
theorem clipR (A : Option Addr) (n c : Nat) (h : n ≤ c) (w : World) : Calls Tryd.prog 27 #[.slice A n c] w fun e w' => e = .returned (.slice A n n) ∧ w = w' := by
  have hs := slice_clip Tryd.underlying22 (fun w => ⟨21, by kernel_rfl⟩) A n c h
  go_enter Tryd.func27, Tryd.ntmps27
  go_wp2
  go_ret
  exact ⟨rfl, rfl⟩
theorem cloneR (A : Option Addr) (c : Nat) (l : List Rf) (w : World) (hl : l.length ≤ 256) (h20 : Rf20 l) (hA : Sl w A (rfc l)) :
    Calls Tryd.prog 30 #[.slice A l.length c] w (OutR l w) := by
  cases A with
  | none =>
    have : l = [] := by
      cases l with
      | nil => rfl
      | cons u l => obtain ⟨ad', e', _⟩ := hA 0 _ rfl; cases e'
    subst this
    have hnil := Lib.run_eql_slice_nil (P := Tryd.prog) (t := 22) (e := 47) (a := none) (n := 0) (c := c) (n' := 0) (c' := 0) (h := Tryd.underlying22)
    go_enter Tryd.func30, Tryd.ntmps30
    go_wp2
    go_ret
    exact ⟨_, rfl, Win.nil _ _ _ _, Below.refl _ _⟩
  | some ad =>
    have hnil := Lib.run_eql_slice_nil (P := Tryd.prog) (t := 22) (e := 47) (a := some ad) (n := l.length) (c := c) (n' := 0) (c' := 0) (h := Tryd.underlying22)
    have H20 := Lib.hid h20; have HL := Lib.hid hl
    clear h20 hl
    go_enter Tryd.func30, Tryd.ntmps30
    go_wp2_with (at_builtin; refine appR rfl (.tmp 5) (.tmp 6) rfl w.heap.size _ [] rfl (WinR.empty (Nat.le_refl _)) (some ad) c l H20.out rfl (hA.below ((Below.refl _ _).alloc (Nat.le_refl _) _)) (by have := HL.out; simp; omega) (by simp) ?_; intro v2 w2 hown2 hk2 _)
    go_ret
    exact ⟨_, rfl, by simpa using hown2, ((Below.refl _ _).alloc (Nat.le_refl _) _).trans (hk2.toBelow (by simp) (fun k hk e => by injection e with e; exact absurd (show w.heap.size = k from e) (by omega)))⟩
theorem slice_fromR (A : Option Addr) (n c k : Nat) (h : k ≤ n) (w : World) :
    (Instr.slice 22 (.slice A n c) (some (.int .i64 k)) none none).run Tryd.prog w = .ok (.slice (cutA A c k 21) (n - k) (c - k)) w := by
  rw [run_slice_l (P := Tryd.prog) (t := 22) (a := A) (len := n) (cap := c) (ht := Tryd.underlying22) (kl := .i64) (l := (k : Int)) (h0 := by omega) (h1 := by omega), sizeRef]
  simp [Result.andThen, sliced, cutA]
theorem slice_toR (A : Option Addr) (n c k : Nat) (h : k ≤ c) (w : World) :
    (Instr.slice 22 (.slice A n c) none (some (.int .i64 k)) none).run Tryd.prog w = .ok (.slice A k c) w := by
  rw [run_slice_h (P := Tryd.prog) (t := 22) (a := A) (len := n) (cap := c) (ht := Tryd.underlying22) (kh := .i64) (h := (k : Int)) (h0 := by omega) (h2 := by omega), sizeRef]
  simp only [Result.andThen, sliced]
  have := cutA_zero A c 21
  unfold cutA at this
  simp only [Int.toNat_natCast, Nat.sub_zero]
  rw [this]
theorem insR (B : Nat) (A : Option Addr) (c : Nat) (l : List Rf) (r : Rf) (A1 : Option Addr) (c1 : Nat) (w : World) (hl : l.length ≤ 256) (hr : r.2.length = 20) (hw : WinR w B (.slice A l.length c) l) (hc : l.length ≤ c) (hA : Sl w A1 (rcell r)) (hB : B ≤ w.heap.size) :
    Calls Tryd.prog 32 #[.slice A l.length c, .int .i64 l.length, .slice A1 1 c1] w fun e w' => ∃ v, e = .returned v ∧ WinR w' B v (l ++ [r]) ∧ Below B w w' := by
  have hs := slice_fromR A l.length c l.length (Nat.le_refl _)
  have HL := Lib.hid hl; have HR := Lib.hid hr; have HW := Lib.hid hw; have HA := Lib.hid hA
  clear hl hr hw hA
  have hA' : Sl w A1 (rfc [r]) := by have := HA.out; simpa [rfc] using this
  have h20 : Rf20 [r] := fun x hx => by
    obtain rfl := List.mem_singleton.1 hx; exact HR.out
  have HA' := Lib.hid hA'; have H20 := Lib.hid h20
  clear hA' h20 HA
  go_enter Tryd.func32, Tryd.ntmps32
  go_wp2_with (at_builtin; refine appR rfl (.tmp 23) (.tmp 24) rfl B _ l rfl HW.out A1 c1 [r] H20.out rfl HA'.out (by have := HL.out; simp; omega) hB ?_; intro v2 w2 hown2 hk2 _)
  go_ret
  exact ⟨_, rfl, hown2, hk2.toBelow hB (fun k hk e => by have := (HW.out.block k e).1; omega)⟩
end Go.Proofs.YtmfhlhjnfaiegaaDoor
