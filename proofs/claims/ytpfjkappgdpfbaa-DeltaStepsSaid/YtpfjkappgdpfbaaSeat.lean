/- The words of Mem at this translation's own types: append, cuts of a slice of bytes. No condition. -/
import Derived.Test.YtpfjkappgdpfbaaProg
import Derived.Test.YtpfjkappgdpfbaaMem
namespace Go.Proofs.Ytpfjkappgdpfbaa
open Go.RowKit
theorem Try.info5 : (Try.prog.info? 5).map (fun i => (i.zero, i.size, i.bytes)) = some (some (.int .u8 0), 1, 1) := by kernel_rfl
/-- append of bytes to bytes of the call's own -/
theorem app22 {w : World} {ops : Array Oper} {rest : List Oper} {o : Oper} {a : Act} {Q : Exit → Act → World → Prop} (hgd : o.guard = none) (s x : Operand)
    (ho : o.op = .call { callee := .builtin .append, args := #[s, x], argTypes := #[22, 22] })
    (B : Nat) (v : Value) (l : List UInt8) (hs : a.eval s = v) (hown : Own w B 5 v l) (A : Option Addr) (c : Nat) (m : List UInt8) (hx : a.eval x = .slice A m.length c) (hA : Bs w A m)
    (hb : l.length + m.length ≤ 140737488351232) (hB : B ≤ w.heap.size)
    (h : ∀ v' w', Own w' B 5 v' (l ++ m) → w.grownBy w' v.ownBlock → wpList Try.prog ops Q rest (a.put o.dst v') w') : wpList Try.prog ops Q (o :: rest) a w :=
  wpList_app hgd s x 22 ho B 5 (.int .u8 0) 1 1 Try.underlying22 Try.info5 rfl (by decide) v l.length (bvs l) hs hown A m.length c (bvs m) hx (by simp) hA (bvs_one m) (by omega) (by unfold maxLen; omega) hB
    (fun v' w' h1 h2 => h v' w' (by rw [Own, List.length_append, bvs_append]; exact h1) h2)
/-- a slice of bytes, cut in front -/
theorem slice_from22 (A : Option Addr) (n c k : Nat) (h : k ≤ n) (w : World) :
    (Instr.slice 22 (.slice A n c) (some (.int .i64 k)) none none).run Try.prog w = .ok (.slice (cutA A c k 1) (n - k) (c - k)) w := by
  have hz : ∀ w : World, (sizeOf (Try.prog.elem 22)).run Try.prog w = .ok 1 w := fun _ => by kernel_rfl
  rw [run_slice_l (P := Try.prog) (t := 22) (a := A) (len := n) (cap := c) (ht := Try.underlying22) (kl := .i64) (l := (k : Int)) (h0 := by omega) (h1 := by omega), hz]
  simp [Result.andThen, sliced, cutA]
end Go.Proofs.Ytpfjkappgdpfbaa
