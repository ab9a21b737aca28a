/- Each small function of packages bin and delta and of their references computes the function of DelP. Condition: a list of bytes has at most 2^40 of them. -/
import Derived.Test.YtpfjkappgdpfbaaSeat
import Derived.Test.YtpfjkappgdpfbaaMemB
import Derived.Test.YtpfjkappgdpfbaaDelP
import Derived.Lib.SliceRun
namespace Go.Proofs.Ytpfjkappgdpfbaa
open Go.RowKit
set_option maxRecDepth 100000
set_option maxHeartbeats 400000
theorem slice_clip {P : Program} {T e : TypeId} (hT : P.underlying T = some (.slice e)) (hz : ∀ w : World, ∃ s, (sizeOf e).run P w = .ok s w) (A : Option Addr) (n c : Nat) (h : n ≤ c) (w : World) :
    (Instr.slice T (.slice A n c) none (some (.int .i64 n)) (some (.int .i64 n))).run P w = .ok (.slice A n n) w := by
  obtain ⟨s, hs⟩ := hz w
  have h1 : ((n : Int) ≤ (c : Int)) := by omega
  simp [Instr.slice, run_underlying hT, Instr.sliceBounds, run_sliceBound, hs, h1]
  cases A <;> simp [Addr.add]
theorem Try.size5 (w : World) : ∃ s, (sizeOf 5).run Try.prog w = .ok s w := ⟨1, by kernel_rfl⟩
theorem clip22 (A : Option Addr) (n c : Nat) (h : n ≤ c) (w : World) : Calls Try.prog 58 #[.slice A n c] w fun e w' => e = .returned (.slice A n n) ∧ w = w' := by
  have hs := slice_clip Try.underlying22 Try.size5 A n c h
  go_enter Try.func58, Try.ntmps58
  go_wp2
  go_ret
  exact ⟨rfl, rfl⟩
/-- append of bytes to bytes of the call's own -/
theorem appW22 {w : World} {ops : Array Oper} {rest : List Oper} {o : Oper} {a : Act} {Q : Exit → Act → World → Prop} (hgd : o.guard = none) (s x : Operand)
    (ho : o.op = .call { callee := .builtin .append, args := #[s, x], argTypes := #[22, 22] })
    (B : Nat) (v : Value) (l : List UInt8) (hs : a.eval s = v) (hown : WinB w B 5 v l) (A : Option Addr) (c : Nat) (m : List UInt8) (hx : a.eval x = .slice A m.length c) (hA : Bs w A m)
    (hb : l.length + m.length ≤ 140737488351232) (hB : B ≤ w.heap.size)
    (h : ∀ v' w', WinB w' B 5 v' (l ++ m) → Kp (fun k => v.ownBlock = some k) w w' → (v'.ownBlock = v.ownBlock ∨ v'.ownBlock = some w.heap.size) → wpList Try.prog ops Q rest (a.put o.dst v') w') : wpList Try.prog ops Q (o :: rest) a w :=
  wpList_appW hgd s x 22 22 ho B 5 (.int .u8 0) 1 1 Try.underlying22 Try.info5 rfl (by decide) v l.length (bvs l) hs hown (.slice A m.length c) m.length (bvs m) hx (srcOf Try.underlying22 (by decide) (by simp) hA (bvs_one m)) (by omega) (by unfold maxLen; omega) hB
    (fun v' w' h1 h2 h3 => h v' w' (by rw [WinB, List.length_append, bvs_append]; exact h1) h2 h3)
theorem clone_any (A : Option Addr) (c : Nat) (l : List UInt8) (w : World) (hl : l.length ≤ 1099511627776) (hA : Bs w A l) :
    Calls Try.prog 51 #[.slice A l.length c] w (Out 5 l w) := by
  cases A with
  | none =>
    have : l = [] := by
      cases l with
      | nil => rfl
      | cons u l => obtain ⟨ad', e', _⟩ := hA 0 _ rfl; cases e'
    subst this
    have hnil := Lib.run_eql_slice_nil (P := Try.prog) (t := 22) (e := 5) (a := none) (n := 0) (c := c) (n' := 0) (c' := 0) (h := Try.underlying22)
    go_enter Try.func51, Try.ntmps51
    go_wp2
    go_ret
    exact ⟨_, rfl, Win.nil _ _ _ _, Below.refl _ _⟩
  | some ad =>
    have hnil := Lib.run_eql_slice_nil (P := Try.prog) (t := 22) (e := 5) (a := some ad) (n := l.length) (c := c) (n' := 0) (c' := 0) (h := Try.underlying22)
    go_enter Try.func51, Try.ntmps51
    go_wp2_with (at_builtin; refine appW22 rfl (.tmp 5) (.tmp 6) rfl w.heap.size _ [] rfl (WinB.empty (Nat.le_refl _)) (some ad) c l rfl (hA.below ((Below.refl _ _).alloc (Nat.le_refl _) _)) (by simp; omega) (by simp) ?_; intro v2 w2 hown2 hk2 _)
    go_ret
    exact ⟨_, rfl, by simpa using hown2, ((Below.refl _ _).alloc (Nat.le_refl _) _).trans (hk2.toBelow (by simp) (fun k hk e => by injection e with e; exact absurd (show w.heap.size = k from e) (by omega)))⟩
/-! sizes -/
theorem bits_or_nat (k : IntKind) (j : Nat) (hj : j ≤ k.bits) (hk : ∀ n : Int, 0 ≤ n → n < 2 ^ j → k.wrap n = n) {a b : Nat} (ha : a < 2 ^ j) (hb : b < 2 ^ j) :
    bits .or k (a : Int) (b : Int) = ((a ||| b : Nat) : Int) := (bits_nat k j hj hk a b ha hb).2
theorem bits_and_i64 {a : Nat} (i : Nat) (hi : i ≤ 62) (ha : a < 9223372036854775808) : bits .and .i64 (a : Int) ((2 ^ i - 1 : Nat) : Int) = ((a % 2 ^ i : Nat) : Int) := by
  have hp : 2 ^ i ≤ 2 ^ 62 := Nat.pow_le_pow_right (by decide) hi
  have h0 := Nat.two_pow_pos i
  have := (bits_nat .i64 63 (by decide) (fun n h0 h1 => IntWalk.i64_in n (by omega)) a (2 ^ i - 1) (by omega) (by omega)).1
  rw [this, Nat.and_two_pow_sub_one_eq_mod]
theorem low7 {v : Nat} (hv : v < 9223372036854775808) : bits .or .i64 (bits .and .i64 (v : Int) 127) 128 % 256 = ((UInt8.ofNat (v % 128 + 128)).toNat : Int) := by
  have h1 := bits_and_i64 (a := v) 7 (by decide) hv
  have h2 := bits_or_nat .i64 63 (by decide) (fun n h0 h1 => IntWalk.i64_in n (by omega)) (a := v % 128) (b := 128) (by omega) (by omega)
  have h3 : v % 128 ||| 128 = v % 128 + 128 := by
    have := or_add (a := v % 128) (b := 1) 7 (by omega)
    simpa using this
  rw [h3] at h2
  have e1 : bits .and .i64 (v : Int) 127 = ((v % 128 : Nat) : Int) := h1
  rw [e1, show bits .or .i64 ((v % 128 : Nat) : Int) 128 = ((v % 128 + 128 : Nat) : Int) from h2]
  have e3 : (UInt8.ofNat (v % 128 + 128)).toNat = v % 128 + 128 := by simp; omega
  rw [e3]; omega
theorem putSize_len (v : Nat) (k : Nat) (h : v < 2 ^ (7 * k)) (hk : 0 < k) : (putSize v).length ≤ k := by
  induction k generalizing v with
  | zero => omega
  | succ k ih =>
    rw [putSize]
    split
    · simp
    · rcases Nat.eq_zero_or_pos k with h0 | h0
      · subst h0; omega
      · have := ih (v / 128) (by rw [Nat.mul_add, Nat.pow_add] at h; exact Nat.div_lt_of_lt_mul (by rw [Nat.mul_comm]; exact h)) h0
        simp; omega
theorem one_byte {x : Int} {c : UInt8} (h : x = (c.toNat : Int)) : ∀ j v, (bvs [c])[j]? = some v → #[Value.int .u8 x][0 + j]? = some v := by
  subst h; intro j v hj; simpa [bvs, bv] using hj
theorem putSize_any (A : Option Addr) (c : Nat) (l : List UInt8) (v : Nat) (hv : v < 9223372036854775808) (w : World) (hl : l.length ≤ 1099511627776) (hA : Bs w A l) :
    Calls Try.prog 42 #[.slice A l.length c, .int .i64 v] w (Out 5 (l ++ putSize v) w) := by
  have hz := fun W A n c h => clip22 A n c h W
  go_enter Try.func42, Try.ntmps42
  go_wp2_with (go_at_call 51; refine (clone_any A c l _ hl hA).mono ?_; rintro e w1 ⟨v1, rfl, hw1, hb1⟩)
  go_loopw [1, 5] (fun i s wr => ∃ (u : Nat) (acc : List UInt8), i = .int .i64 u ∧ u < 9223372036854775808 ∧ acc ++ putSize u = l ++ putSize v ∧ WinB wr w.heap.size 5 s acc ∧ Below w.heap.size w wr) (fun i _ _ => (intOf i).toNat)
  case atStart => exact ⟨v, l, rfl, hv, rfl, hw1, hb1⟩
  case round =>
    clear hw1 hb1
    obtain ⟨u, acc, rfl, hu, hacc, hw, hb⟩ := hrel
    have hlen := congrArg List.length hacc
    rw [List.length_append, List.length_append] at hlen
    have hp9 := putSize_len v 9 (by simpa using hv) (by omega)
    have HA := Lib.hid hacc
    clear hacc
    by_cases h : 127 < u
    · have e7 := low7 hu
      go_wp2_with (at_builtin; refine appW22 rfl (.tmp 15) (.tmp 20) rfl w.heap.size _ acc rfl (hw.below ((Below.refl _ _).alloc (Nat.le_refl _) _)) (some ⟨wr.heap.size, 0, none⟩) 1 [UInt8.ofNat (u % 128 + 128)] rfl (Sl.of_block (heap_alloc_new _ _) (fun j v hj => by simpa [bvs, bv] using hj)) (by simp; omega) (Nat.le_trans hb.size (by simp)) ?_; intro v2 w2 hown2 hk2 _)
      have hb2 : Below w.heap.size w w2 := (hb.alloc hb.size _).trans (hk2.toBelow (Nat.le_trans hb.size (by simp)) (fun k hk e => absurd (hw.block k e).1 (by omega)))
      go_roundw
      case rel =>
        refine ⟨u / 128, acc ++ [UInt8.ofNat (u % 128 + 128)], by go_num, by omega, ?_, hown2, hb2⟩
        rw [← HA.out, putSize.eq_def u, if_neg (by omega), List.append_assoc]; rfl
      case measure => simp [intOf]; omega
    · have e8 : (u : Int) = ((UInt8.ofNat u).toNat : Int) := by simp; omega
      have E8 := Lib.hid e8; clear e8
      go_wp2_with (first
        | (at_builtin; refine appW22 rfl (.tmp 22) (.tmp 25) rfl w.heap.size _ acc rfl (hw.below ((Below.refl _ _).alloc (Nat.le_refl _) _)) (some ⟨wr.heap.size, 0, none⟩) 1 [UInt8.ofNat u] rfl (Sl.of_block (heap_alloc_new _ _) (one_byte E8.out)) (by simp; omega) (Nat.le_trans hb.size (by simp)) ?_; intro v2 w2 hown2 hk2 _
           have hb2 : Below w.heap.size w w2 := (hb.alloc hb.size _).trans (hk2.toBelow (Nat.le_trans hb.size (by simp)) (fun k hk e => absurd (hw.block k e).1 (by omega)))
           obtain ⟨A2, c2, rfl, hc2, _, _⟩ := hown2.reads
           simp only [List.length_append, List.length_cons, List.length_nil, Nat.zero_add] at hc2)
        | (go_at_call 58; refine (clip22 A2 _ c2 hc2 w2).mono ?_; rintro e w3 ⟨rfl, rfl⟩))
      go_ret
      have e9 : acc ++ [UInt8.ofNat u] = l ++ putSize v := by rw [← HA.out, putSize.eq_def u, if_pos (by omega)]
      exact ⟨_, rfl, by rw [← e9]; exact WinB.clip hown2 (by simp), hb2⟩
/-- the reference's PutSize appends to what it is given: the caller's own -/
theorem putSizeR_any (B : Nat) (s : Value) (l : List UInt8) (v : Nat) (hv : v < 9223372036854775808) (w0 w : World) (hl : l.length ≤ 1099511627776) (hs : WinB w B 5 s l) (hB : Below B w0 w) (hBs : B ≤ w.heap.size) :
    Calls Try.prog 46 #[s, .int .i64 v] w fun e w' => ∃ v', e = .returned v' ∧ WinB w' B 5 v' (l ++ putSize v) ∧ Below B w0 w' ∧ w.heap.size ≤ w'.heap.size := by
  go_enter Try.func46, Try.ntmps46
  go_wp2
  go_loopw [0, 1] (fun s i wr => ∃ (u : Nat) (acc : List UInt8), i = .int .i64 u ∧ u < 9223372036854775808 ∧ acc ++ putSize u = l ++ putSize v ∧ WinB wr B 5 s acc ∧ Below B w0 wr ∧ w.heap.size ≤ wr.heap.size) (fun _ i _ => (intOf i).toNat)
  case atStart => exact ⟨v, l, rfl, hv, rfl, hs, hB, Nat.le_refl _⟩
  case round =>
    clear hs hB
    obtain ⟨u, acc, rfl, hu, hacc, hw, hb, hsz⟩ := hrel
    have hlen := congrArg List.length hacc
    rw [List.length_append, List.length_append] at hlen
    have hp9 := putSize_len v 9 (by simpa using hv) (by omega)
    have HA := Lib.hid hacc
    clear hacc
    by_cases h : 128 ≤ u
    · have e7 := low7 hu
      go_wp2_with (at_builtin; refine appW22 rfl (.tmp 10) (.tmp 15) rfl B _ acc rfl (hw.below ((Below.refl _ _).alloc (Nat.le_refl _) _)) (some ⟨wr.heap.size, 0, none⟩) 1 [UInt8.ofNat (u % 128 + 128)] rfl (Sl.of_block (heap_alloc_new _ _) (fun j v hj => by simpa [bvs, bv] using hj)) (by simp; omega) (by simp; omega) ?_; intro v2 w2 hown2 hk2 _)
      have hb2 : Below B w0 w2 := (hb.alloc (by omega) _).trans (hk2.toBelow (by simp; omega) (fun k hk e => absurd (hw.block k e).1 (by omega)))
      have hs2 := hk2.size
      go_roundw
      case rel =>
        refine ⟨u / 128, acc ++ [UInt8.ofNat (u % 128 + 128)], by go_num, by omega, ?_, hown2, hb2, by simp at hs2; omega⟩
        rw [← HA.out, putSize.eq_def u, if_neg (by omega), List.append_assoc]; rfl
      case measure => simp [intOf]; omega
    · have e8 : (u : Int) = ((UInt8.ofNat u).toNat : Int) := by simp; omega
      have E8 := Lib.hid e8; clear e8
      go_wp2_with (at_builtin; refine appW22 rfl (.tmp 19) (.tmp 22) rfl B _ acc rfl (hw.below ((Below.refl _ _).alloc (Nat.le_refl _) _)) (some ⟨wr.heap.size, 0, none⟩) 1 [UInt8.ofNat u] rfl (Sl.of_block (heap_alloc_new _ _) (one_byte E8.out)) (by simp; omega) (by simp; omega) ?_; intro v2 w2 hown2 hk2 _)
      have hb2 : Below B w0 w2 := (hb.alloc (by omega) _).trans (hk2.toBelow (by simp; omega) (fun k hk e => absurd (hw.block k e).1 (by omega)))
      have hs2 := hk2.size
      go_ret
      have e9 : acc ++ [UInt8.ofNat u] = l ++ putSize v := by rw [← HA.out, putSize.eq_def u, if_pos (by omega)]
      exact ⟨_, rfl, by rw [← e9]; exact hown2, hb2, by simp at hs2; omega⟩
end Go.Proofs.Ytpfjkappgdpfbaa
