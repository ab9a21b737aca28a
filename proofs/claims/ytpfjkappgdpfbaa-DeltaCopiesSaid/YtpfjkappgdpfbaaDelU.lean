/- The steps' writers: put, take, Clip. Condition: lists of bytes have at most 2^40 of them. -/
import Derived.Test.YtpfjkappgdpfbaaDelV
import Derived.StillTailTactics
import Derived.BigQuiet
import Derived.Deep.DeepFit
import Derived.Deep.DeepMust
namespace Go.Proofs.Ytpfjkappgdpfbaa
open Go.RowKit
set_option maxRecDepth 100000
set_option maxHeartbeats 4000000
theorem appW72 {w : World} {ops : Array Oper} {rest : List Oper} {o : Oper} {a : Act} {Q : Exit → Act → World → Prop} (tx : TypeId) (htx : tx = 72 ∨ tx = 22) (hgd : o.guard = none) (s x : Operand)
    (ho : o.op = .call { callee := .builtin .append, args := #[s, x], argTypes := #[72, tx] })
    (B : Nat) (v : Value) (l : List UInt8) (hs : a.eval s = v) (hown : WinB w B 5 v l) (A : Option Addr) (c : Nat) (m : List UInt8) (hx : a.eval x = .slice A m.length c) (hA : Bs w A m)
    (hb : l.length + m.length ≤ 140737488351232) (hB : B ≤ w.heap.size)
    (h : ∀ v' w', WinB w' B 5 v' (l ++ m) → Kp (fun k => v.ownBlock = some k) w w' → (v'.ownBlock = v.ownBlock ∨ v'.ownBlock = some w.heap.size) → wpList Try.prog ops Q rest (a.put o.dst v') w') : wpList Try.prog ops Q (o :: rest) a w :=
  wpList_appW hgd s x 72 tx ho B 5 (.int .u8 0) 1 1 Try.underlying72 Try.info5 rfl (by decide) v l.length (bvs l) hs hown (.slice A m.length c) m.length (bvs m) hx (by
      rcases htx with rfl | rfl
      · exact srcOf Try.underlying72 (by decide) (by simp) hA (bvs_one m)
      · exact srcOf Try.underlying22 (by decide) (by simp) hA (bvs_one m)) (by omega) (by unfold maxLen; omega) hB
    (fun v' w' h1 h2 h3 => h v' w' (by rw [WinB, List.length_append, bvs_append]; exact h1) h2 h3)
/-- the list of bytes whose slice lies in a cell has become another one -/
def Wrote (B b off : Nat) (cur : Array Value) (t : Nat) (v : Value) (x' : List UInt8) (w w' : World) : Prop :=
  ∃ v', w'.heap[b]? = some (.cells (cur.setIfInBounds off v') t (0, 0)) ∧ WinB w' B 5 v' x' ∧ Kp (fun k => v.ownBlock = some k ∨ k = b) w w' ∧ (v'.ownBlock = v.ownBlock ∨ ∃ k, v'.ownBlock = some k ∧ w.heap.size ≤ k)
theorem heap_setCell_ne (w : World) (p : Addr) (u : Value) (k : Nat) (h : k ≠ p.block) : (w.setCell p u).heap[k]? = w.heap[k]? := Below.heap_setCell w p u k h
theorem own_ne {v v' : Value} {b s : Nat} (h : ¬ v.ownBlock = some b) (hb : b < s) (ho : v'.ownBlock = v.ownBlock ∨ v'.ownBlock = some s) : ¬ v'.ownBlock = some b := by
  rcases ho with e | e <;> rw [e]
  · exact h
  · intro e; injection e; omega
theorem WinB.setNe {w : World} {B e b off : Nat} {v u : Value} {l : List UInt8} (h : WinB w B e v l) (hne : ¬ v.ownBlock = some b) : WinB (w.setCell ⟨b, off, none⟩ u) B e v l :=
  Win.keep h (fun g hg => heap_setCell_ne _ _ _ _ (fun e => hne (by rw [hg, show g = b from e])))
theorem own_old {v v' : Value} {s n : Nat} (ho : v'.ownBlock = v.ownBlock ∨ v'.ownBlock = some s) (hs : n ≤ s) : ∀ i, i < n → v'.ownBlock = some i → v.ownBlock = some i := fun i hi e => by
  rcases ho with h | h
  · rw [← h]; exact e
  · rw [h] at e; injection e; omega
theorem put_any (B b off : Nat) (cur : Array Value) (t : Nat) (v : Value) (x : List UInt8) (A : Option Addr) (c : Nat) (d : List UInt8) (w : World) (hb : w.heap[b]? = some (.cells cur t (0, 0))) (hv : cur[off]? = some v) (hw : WinB w B 5 v x) (hne : ¬ v.ownBlock = some b)
    (hl : x.length + d.length ≤ 1099511627776) (hd : d.length ≤ 127) (hA : Bs w A d) (hA1 : ∀ ad, A = some ad → ad.block ≠ b ∧ ¬ v.ownBlock = some ad.block) (hB : B ≤ w.heap.size) :
    Calls Try.prog 44 #[.pointer (some ⟨b, off, none⟩), .slice A d.length c] w fun e w' => e = .returned (.tuple #[]) ∧ Wrote B b off cur t v (x ++ UInt8.ofNat d.length :: d) w w' := by
  obtain ⟨A0, c0, rfl, _, _, _⟩ := WinB.reads hw
  have hbl : b < w.heap.size := (Array.getElem?_eq_some_iff.1 hb).1
  have hol : off < cur.size := (Array.getElem?_eq_some_iff.1 hv).1
  have c1 : w.cell? ⟨b, off, none⟩ = some (.slice A0 x.length c0) := by rw [cell_of_row _ _ _ _ _ _ hb]; exact hv
  have e8 : (d.length : Int) = ((UInt8.ofNat d.length).toNat : Int) := by simp; omega
  have E8 := Lib.hid e8; clear e8
  have hBs : B ≤ (w.alloc (.cells #[.int .u8 d.length] 5)).heap.size := by simp; omega
  have hAl : ∀ ad, A = some ad → d ≠ [] → ad.block < w.heap.size := fun ad e hne => by
    cases d with
    | nil => exact absurd rfl hne
    | cons y d =>
      obtain ⟨ad', e', hc⟩ := hA 0 _ rfl
      rw [e] at e'; injection e' with e'; subst e'
      simpa [Addr.add] using World.block_lt_of_cell? w _ hc
  have HV := Lib.hid hv; have HB := Lib.hid hb; have HW := Lib.hid hw; have HN := Lib.hid hne; have HA := Lib.hid hA; have HA1 := Lib.hid hA1; have HAL := Lib.hid hAl
  clear hv hb hw hne hA hA1 hAl
  go_enter Try.func44, Try.ntmps44
  go_wp2_with (first
    | (at_builtin
       refine appW72 72 (.inl rfl) rfl (.tmp 7) (.tmp 11) rfl B _ x rfl (HW.out.below ((Below.refl _ _).alloc (Nat.le_refl _) _)) (some ⟨w.heap.size, 0, none⟩) 1 [UInt8.ofNat d.length] rfl (Sl.of_block (heap_alloc_new _ _) (one_byte E8.out)) (by simp; omega) hBs ?_; intro v2 w2 hw2 hk2 ho2
       obtain ⟨A2, c2, rfl, _, _, _⟩ := WinB.readsN (n := x.length + 1) hw2 (by simp)
       have hb2 : w2.heap[b]? = some (.cells cur t (0, 0)) := (hk2.block b (by simp; omega) (fun e => HN.out e)).trans ((((Below.refl _ _).alloc (Nat.le_refl _) _).block b hbl).trans HB.out)
       have cc2 : w2.cell? ⟨b, off, none⟩ = some (.slice A0 x.length c0) := by rw [cell_of_row _ _ _ _ _ _ hb2]; exact HV.out
       have cf2 : w2.frozen? ⟨b, off, none⟩ = false := frozen_of_row _ _ _ _ _ hb2
       have hn2 := own_ne (s := (w.alloc (.cells #[.int .u8 d.length] 5)).heap.size) HN.out (by simp; omega) ho2
       have K2 := ((((Kp.refl (fun k => (Value.slice A0 x.length c0).ownBlock = some k ∨ k = b) w).alloc (.cells #[.int .u8 d.length] 5)).step hk2 (fun i _ h => Or.inl h)).setCell (p := ⟨b, off, none⟩) (Or.inl (Or.inr rfl)) (.slice A2 (x.length + 1) c2))
       have d2 := Sl.kp HA.out K2 (fun ad e => fun h => h.elim (HA1.out ad e).2 (HA1.out ad e).1)
       have hww : WinB (w2.setCell ⟨b, off, none⟩ (.slice A2 (x.length + 1) c2)) B 5 (.slice A2 (x.length + 1) c2) (x ++ [UInt8.ofNat d.length]) := WinB.setNe hw2 hn2
       have hr2 : (w2.setCell ⟨b, off, none⟩ (.slice A2 (x.length + 1) c2)).heap[b]? = some (.cells (cur.setIfInBounds off (.slice A2 (x.length + 1) c2)) t (0, 0)) := heap_setCell_same _ _ _ _ _ _ hb2
       have ho2' := own_old (n := w.heap.size) ho2 (by simp)
       have HN2 := Lib.hid hn2; have HWW := Lib.hid hww; have HR2 := Lib.hid hr2; have D2 := Lib.hid d2; have HO2 := Lib.hid ho2'; have HK2 := Lib.hid K2
       clear hn2 hww hr2 d2 ho2' K2)
    | (at_builtin
       go_must (
       refine appW72 22 (.inr rfl) rfl (.tmp 17) (.tmp 18) rfl B _ (x ++ [UInt8.ofNat d.length]) rfl HWW.out A c d rfl D2.out (by simp; omega) (Nat.le_trans hB HK2.out.size) ?_; intro v3 w3 hw3 hk3 ho3
       obtain ⟨A3, c3, rfl, _, _, _⟩ := WinB.readsN (n := x.length + 1 + d.length) hw3 (by simp; omega)
       have K3 := (HK2.out.step hk3 (fun i hi h => Or.inl (HO2.out i hi h)))
       have hb3 := (hk3.block b (Nat.lt_of_lt_of_le hbl HK2.out.size) (fun e => HN2.out e)).trans HR2.out
       have cc3 : w3.cell? ⟨b, off, none⟩ = some (.slice A2 (x.length + 1) c2) := by rw [cell_of_row _ _ _ _ _ _ hb3]; simp [hol]
       have cf3 : w3.frozen? ⟨b, off, none⟩ = false := frozen_of_row _ _ _ _ _ hb3
       have ho3' := own_old (n := w.heap.size) ho3 HK2.out.size
       have hn3 := own_ne HN2.out (Nat.lt_of_lt_of_le hbl HK2.out.size) ho3
       have HK3 := Lib.hid K3; have HB3 := Lib.hid hb3; have HO3 := Lib.hid ho3; have HN3 := Lib.hid hn3
       clear K3 hb3 ho3' hn3)))
  go_end0
  refine ⟨rfl, .slice A3 (x.length + 1 + d.length) c3, ?_, ?_, HK3.out.setCell (Or.inl (Or.inr rfl)) _, ?_⟩
  · have := heap_setCell_same w3 b off _ t (.slice A3 (x.length + 1 + d.length) c3) HB3.out
    rw [this]
    congr 2
    apply Array.ext <;> simp
  · rw [show x ++ UInt8.ofNat d.length :: d = x ++ [UInt8.ofNat d.length] ++ d by simp]
    exact WinB.setNe hw3 HN3.out
  · rcases HO3.out with h | h
    · rcases ho2 with h2 | h2
      · exact .inl (h.trans h2)
      · exact .inr ⟨_, h.trans h2, by simp⟩
    · exact .inr ⟨_, h, HK2.out.size⟩
end Go.Proofs.Ytpfjkappgdpfbaa
