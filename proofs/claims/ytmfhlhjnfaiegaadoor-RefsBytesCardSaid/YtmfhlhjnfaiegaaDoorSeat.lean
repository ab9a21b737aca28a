/- Words of Mem and MemB at this translation's own types: append to bytes, text of bytes. No condition. -/
import Derived.Test.YtmfhlhjnfaiegaaDoorProg
import Derived.Test.YtmfhlhjnfaiegaaDoorMemB
import Derived.Lib.SliceRun
import Derived.StillTailTactics
import Derived.BigQuiet
import Derived.Deep.DeepFit
import Derived.Deep.DeepMust
import Derived.Deep.RegionLaw
import Derived.Deep.CutBlock
namespace Go.Proofs.YtmfhlhjnfaiegaaDoor
open Go.RowKit
set_option maxRecDepth 100000
set_option maxHeartbeats 4000000
set_option linter.unusedVariables false
theorem Tryd.info5 : (Tryd.prog.info? 5).map (fun i => (i.zero, i.size, i.bytes)) = some (some (.int .u8 0), 1, 1) := by kernel_rfl
theorem slice_clip {P : Program} {T e : TypeId} (hT : P.underlying T = some (.slice e)) (hz : ∀ w : World, ∃ s, (sizeOf e).run P w = .ok s w) (A : Option Addr) (n c : Nat) (h : n ≤ c) (w : World) :
    (Instr.slice T (.slice A n c) none (some (.int .i64 n)) (some (.int .i64 n))).run P w = .ok (.slice A n n) w := by
  obtain ⟨s, hs⟩ := hz w
  have h1 : ((n : Int) ≤ (c : Int)) := by omega
  simp [Instr.slice, run_underlying hT, Instr.sliceBounds, run_sliceBound, hs, h1]
  cases A <;> simp [Addr.add]
/-- append of bytes to bytes of the call's own -/
theorem appW34 {w : World} {ops : Array Oper} {rest : List Oper} {o : Oper} {a : Act} {Q : Exit → Act → World → Prop} (hgd : o.guard = none) (s x : Operand)
    (ho : o.op = .call { callee := .builtin .append, args := #[s, x], argTypes := #[23, 23] })
    (B : Nat) (v : Value) (l : List UInt8) (hs : a.eval s = v) (hown : WinB w B 5 v l) (A : Option Addr) (c : Nat) (m : List UInt8) (hx : a.eval x = .slice A m.length c) (hA : Bs w A m)
    (hb : l.length + m.length ≤ 140737488351232) (hB : B ≤ w.heap.size)
    (h : ∀ v' w', WinB w' B 5 v' (l ++ m) → Kp (fun k => v.ownBlock = some k) w w' → (v'.ownBlock = v.ownBlock ∨ v'.ownBlock = some w.heap.size) → wpList Tryd.prog ops Q rest (a.put o.dst v') w') : wpList Tryd.prog ops Q (o :: rest) a w :=
  wpList_appW hgd s x 23 23 ho B 5 (.int .u8 0) 1 1 Tryd.underlying23 Tryd.info5 rfl (by decide) v l.length (bvs l) hs hown (.slice A m.length c) m.length (bvs m) hx (srcOf Tryd.underlying23 (by decide) (by simp) hA (bvs_one m)) (by omega) (by unfold maxLen; omega) hB
    (fun v' w' h1 h2 h3 => h v' w' (by rw [WinB, List.length_append, bvs_append]; exact h1) h2 h3)
theorem one_byte {x : Int} {c : UInt8} (h : x = (c.toNat : Int)) : ∀ j v, (bvs [c])[j]? = some v → #[Value.int .u8 x][0 + j]? = some v := by
  subst h; intro j v hj; simpa [bvs, bv] using hj
theorem bits_or_nat (k : IntKind) (j : Nat) (hj : j ≤ k.bits) (hk : ∀ n : Int, 0 ≤ n → n < 2 ^ j → k.wrap n = n) {a b : Nat} (ha : a < 2 ^ j) (hb : b < 2 ^ j) :
    bits .or k (a : Int) (b : Int) = ((a ||| b : Nat) : Int) := (bits_nat k j hj hk a b ha hb).2
theorem bits_and_i64 {a : Nat} (i : Nat) (hi : i ≤ 62) (ha : a < 9223372036854775808) : bits .and .i64 (a : Int) ((2 ^ i - 1 : Nat) : Int) = ((a % 2 ^ i : Nat) : Int) := by
  have hp : 2 ^ i ≤ 2 ^ 62 := Nat.pow_le_pow_right (by decide) hi
  have h0 := Nat.two_pow_pos i
  have := (bits_nat .i64 63 (by decide) (fun n h0 h1 => IntWalk.i64_in n (by omega)) a (2 ^ i - 1) (by omega) (by omega)).1
  rw [this, Nat.and_two_pow_sub_one_eq_mod]
abbrev bstr (l : List UInt8) : ByteArray := ⟨l.toArray⟩
theorem bstr_inj {a b : List UInt8} (h : bstr a = bstr b) : a = b := by
  have := congrArg (fun x : ByteArray => x.data.toList) h
  simpa using this
theorem bstr_eq {a b : List UInt8} (h : a = b) : (bstr a == bstr b) = true := by
  subst h
  show (a.toArray == a.toArray) = true
  simp
theorem bstr_ne {a b : List UInt8} (h : a ≠ b) : (bstr a == bstr b) = false := by
  show (a.toArray == b.toArray) = false
  simp [h]
theorem push_all : ∀ (l : List UInt8) (s : ByteArray), (l.map fun c => (c.toNat : Int)).foldl (fun r n => r.push (UInt8.ofNat n.toNat)) s = ⟨s.data ++ l.toArray⟩
  | [], s => by simp
  | c :: l, s => by
    rw [List.map_cons, List.foldl_cons, push_all l]
    simp [ByteArray.push]
theorem conv34 {w : World} {A : Option Addr} {l : List UInt8} {c n : Nat} (h : Bs w A l) (hn : n = l.length) : (convert 23 9 (.slice A n c)).run Tryd.prog w = .ok (.string (bstr l)) w := by
  subst hn
  cases A with
  | none =>
    have hl : l = [] := by
      cases l with
      | nil => rfl
      | cons u l => obtain ⟨ad, e, _⟩ := h 0 _ rfl; cases e
    subst hl
    exact run_convert_bytes_nil w 23 5 Tryd.underlying23 Tryd.underlying5 _ _ 9 Tryd.underlying9
  | some ad =>
    have hld : (loadCells ad l.length).run Tryd.prog w = .ok ((l.map fun c => (c.toNat : Int)).map (Value.int .u8)).toArray w := by
      have := run_loadCells_list (P := Tryd.prog) w ad (bvs l) (fun j v hj => by obtain ⟨ad', e, hc⟩ := h j v hj; injection e with e; subst e; exact hc)
      rw [show ((l.map fun c => (c.toNat : Int)).map (Value.int .u8)) = bvs l from by simp only [bvs, List.map_map]; rfl]
      simpa using this
    rw [run_convert_bytes_string w 23 9 5 _ _ _ Tryd.underlying23 Tryd.underlying5 Tryd.underlying9, run_bytesToString w _ _ _ _ hld, push_all]
    simp [ByteArray.empty, ByteArray.emptyWithCapacity]
    rfl
theorem step_appW34 {ops : Array Oper} {o : Oper} {a : Act} {w : World} {K : Act → World → Prop} {Q : Exit → Act → World → Prop} {E : Prop} (hg : o.guard = none) (s x : Operand)
    (ho : o.op = .call { callee := .builtin .append, args := #[s, x], argTypes := #[23, 23] })
    (B : Nat) (v : Value) (l : List UInt8) (hs : a.eval s = v) (hown : WinB w B 5 v l) (A : Option Addr) (c : Nat) (m : List UInt8) (hx : a.eval x = .slice A m.length c) (hA : Bs w A m)
    (hb : l.length + m.length ≤ 140737488351232) (hB : B ≤ w.heap.size)
    (hK : ∀ v' w', WinB w' B 5 v' (l ++ m) → Kp (fun k => v.ownBlock = some k) w w' → (v'.ownBlock = v.ownBlock ∨ v'.ownBlock = some w.heap.size) → K (a.put o.dst v') w') :
    if Region.wanted o (yielded ops a.tmps) = true then Oper.wp Tryd.prog o a w K Q else E := by
  have hw : Region.wanted o (yielded ops a.tmps) = true := by simp [Region.wanted, hg]
  rw [if_pos hw]
  obtain ⟨v', w', hrun, h1, h2, h3⟩ := run_appW (P := Tryd.prog) B 23 23 o.type 5 (.int .u8 0) 1 1 Tryd.underlying23 Tryd.info5 rfl (by decide) v l.length (bvs l) hown (.slice A m.length c) m.length (bvs m) (srcOf Tryd.underlying23 (by decide) (by simp) hA (bvs_one m)) (by omega) (by unfold maxLen; omega) hB
  unfold Oper.wp
  simp [execOp, ho, resolve, invoke, builtin, hs, hx, hrun, Result.andThen]
  exact hK v' w' (by rw [WinB, List.length_append, bvs_append]; exact h1) h2 h3
end Go.Proofs.YtmfhlhjnfaiegaaDoor
