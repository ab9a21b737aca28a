/- Words on memory: slices that are read, cut, handed on; plain lemmas on lists and regions. No condition. -/
import Derived.WalkKit
import Derived.Lib.Hide
import Derived.Deep.QuietTactic
import Derived.BigQuiet
import Derived.Laws.CopyOwn
import Derived.Lib.SlBytesConst
import Derived.OpenShut
namespace Go.Proofs.Ytpfjkappgdpfbaa
open Go.RowKit
/-- The cells of a slice read as these values. -/
def Sl (w : World) (A : Option Addr) (l : List Value) : Prop :=
  ∀ j v, l[j]? = some v → ∃ ad, A = some ad ∧ w.cell? (ad.add j) = some v
theorem Sl.nil (w : World) (A : Option Addr) : Sl w A [] := fun j v h => by simp at h
theorem Sl.below {w w' : World} {A : Option Addr} {l : List Value} (h : Sl w A l) (hb : Below w.heap.size w w') : Sl w' A l := fun j v hj => by
  obtain ⟨ad, e, hc⟩ := h j v hj
  exact ⟨ad, e, (hb.cell (World.block_lt_of_cell? w _ hc)).trans hc⟩
theorem add_plain (b o j : Nat) : (⟨b, o, none⟩ : Addr).add j = ⟨b, o + j, none⟩ := by unfold Addr.add; split <;> simp_all
theorem Sl.of_block {w : World} {b off : Nat} {cs : Array Value} {t : TypeId} {fr : Nat × Nat} (h : w.heap[b]? = some (.cells cs t fr)) {l : List Value}
    (hl : ∀ j v, l[j]? = some v → cs[off + j]? = some v) : Sl w (some ⟨b, off, none⟩) l := fun j v hj => by
  refine ⟨_, rfl, ?_⟩
  rw [add_plain]
  simp only [World.cell?, h]
  exact hl j v hj
theorem Sl.take {w : World} {A : Option Addr} {l : List Value} (h : Sl w A l) (n : Nat) : Sl w A (l.take n) := fun j v hj => by
  rw [List.getElem?_take] at hj
  split at hj
  · exact h j v hj
  · cases hj
theorem Sl.drop {w : World} {b off : Nat} {l : List Value} (h : Sl w (some ⟨b, off, none⟩) l) (n : Nat) : Sl w (some ⟨b, off + n, none⟩) (l.drop n) := fun j v hj => by
  rw [List.getElem?_drop] at hj
  obtain ⟨ad, e, hc⟩ := h _ v hj
  injection e with e
  subst e
  rw [add_plain] at hc
  refine ⟨_, rfl, ?_⟩
  rw [add_plain, Nat.add_assoc]
  exact hc
/-- where a slice that is cut in front begins -/
def cutA (A : Option Addr) (c k s : Nat) : Option Addr := if c = k then A else A.map (·.add (k * s))
theorem cutA_zero (A : Option Addr) (c s : Nat) : cutA A c 0 s = A := by
  unfold cutA; split
  · rfl
  · cases A <;> simp [Addr.add]
theorem Sl.cut {w : World} {A : Option Addr} {l : List Value} (h : Sl w A l) (k c s : Nat) (hc : l.length ≤ c * s) : Sl w (cutA A c k s) (l.drop (k * s)) := fun j v hj => by
  rw [List.getElem?_drop] at hj
  have hlt : k * s + j < l.length := by
    rcases Nat.lt_or_ge (k * s + j) l.length with h | h
    · exact h
    · rw [List.getElem?_eq_none h] at hj; cases hj
  have hne : c ≠ k := fun e => by subst e; omega
  obtain ⟨ad, e, hc⟩ := h _ v hj
  subst e
  exact ⟨ad.add (k * s), by simp [cutA, hne], by rw [Addr.add_add]; exact hc⟩
theorem wp_region_quietC {P : Program} {C : World → Prop} {id : Nat} {Q : Exit → Act → World → Prop} {a : Act} {w : World} {l : List Oper} (hC : C w.drew) (hm : P.follows .mixedOrders = true) (hB : Region.lexB .any l.toArray = true)
    (h : wpQuiet P l.toArray C (fun a' => ∀ w', C w' → Q .normal a' w') l a) : (Code.region id l.toArray true).wp P Q a w :=
  wp_region_quiet (C := C) hm hB hC (by simpa using h)
theorem quietB {P : Program} {f : FuncId} {args : Array Value} {W w : World} {v : Value} (hb : Below W.heap.size W w) (h : Calls P f args w fun e w' => e = .returned v ∧ Below w.heap.size w w') :
    Calls P f args w fun e w' => e = .returned v ∧ Below W.heap.size W w' := h.mono fun _ _ ⟨he, h'⟩ => ⟨he, hb.trans (h'.mono hb.size)⟩
theorem quietS {P : Program} {f : FuncId} {args : Array Value} {W w : World} {v : Value} (hb : Below W.heap.size W w) (h : Calls P f args w fun e w' => e = .returned v ∧ w = w') :
    Calls P f args w fun e w' => e = .returned v ∧ Below W.heap.size W w' := h.mono fun _ _ ⟨he, h'⟩ => ⟨he, h' ▸ hb⟩
/-- bytes as values -/
def bv (c : UInt8) : Value := .int .u8 c.toNat
def bvs (l : List UInt8) : List Value := l.map bv
@[simp] theorem bvs_length (l : List UInt8) : (bvs l).length = l.length := by simp [bvs]
abbrev Bs (w : World) (A : Option Addr) (l : List UInt8) : Prop := Sl w A (bvs l)
theorem Bs.at {w : World} {A : Option Addr} {l : List UInt8} (h : Bs w A l) {j : Nat} (hj : j < l.length) :
    ∃ ad, A = some ad ∧ w.cell? (ad.add j) = some (.int .u8 (l[j].toNat : Int)) :=
  h j _ (by simp [bvs, bv, hj])
theorem Bs.take {w : World} {A : Option Addr} {l : List UInt8} (h : Bs w A l) (k : Nat) : Bs w A (l.take k) := by
  have := Sl.take h k
  unfold Bs bvs at *
  rwa [List.map_take]
theorem Bs.cut {w : World} {A : Option Addr} {l : List UInt8} (h : Bs w A l) (k c : Nat) (hc : l.length ≤ c) : Bs w (cutA A c k 1) (l.drop k) := by
  have := Sl.cut h k c 1 (by simpa using hc)
  unfold Bs bvs at *
  rw [Nat.mul_one] at this
  rwa [List.map_drop]
/-- an argument of bytes, as the row's frame hands it over -/
theorem bytes_of_row {w : World} {a : Option Addr} {len cap : Nat} {zs : List Int}
    (h : (a = none ∧ len = 0 ∧ cap = 0 ∧ zs = []) ∨ ∃ x, a = some x ∧ len ≤ cap ∧ cap ≤ maxLen ∧ zs.length = cap ∧ (∀ i, i < zs.length → w.cell? (x.add i) = some (.int .u8 (zs.getD i 0))) ∧ ∀ n ∈ zs, (Lit.int .u8 n).wf = true) :
    ∃ l : List UInt8, len = l.length ∧ l.length ≤ cap ∧ cap ≤ maxLen ∧ Bs w a l := by
  rcases h with ⟨rfl, rfl, rfl, rfl⟩ | ⟨x, rfl, h1, h2, h3, h4, h5⟩
  · exact ⟨[], rfl, by simp, by simp, Sl.nil _ _⟩
  · have hlen : ((zs.take len).map fun n => UInt8.ofNat n.toNat).length = len := by simp; omega
    refine ⟨(zs.take len).map fun n => UInt8.ofNat n.toNat, hlen.symm, by rw [hlen]; exact h1, h2, fun j v hj => ⟨x, rfl, ?_⟩⟩
    have hlt : j < len := by
      rcases Nat.lt_or_ge j len with h | h
      · exact h
      · rw [List.getElem?_eq_none (by simp; omega)] at hj; cases hj
    have hz : j < zs.length := by omega
    have hb := bounds_u8 (h5 zs[j] (List.getElem_mem hz))
    rw [h4 j hz]
    simp [bvs, bv, List.getElem?_take, hlt, hz] at hj
    rw [← hj, List.getD_eq_getElem?_getD, List.getElem?_eq_getElem hz]
    simp only [Option.getD_some]
    congr 2
    omega
theorem foldl_take {α β : Type} (f : α → β → α) (a : α) (l : List β) (k : Nat) (h : k < l.length) : (l.take (k + 1)).foldl f a = f ((l.take k).foldl f a) l[k] := by
  rw [List.take_succ_eq_append_getElem h, List.foldl_append]; rfl
theorem ret_int {k : IntKind} {a b : Int} (h : a = b) : Ending.returned (.int k a) = .returned (.int k b) := by rw [h]
theorem int_eq {k : IntKind} {a b : Int} (h : a = b) : Value.int k a = .int k b := by rw [h]
end Go.Proofs.Ytpfjkappgdpfbaa
