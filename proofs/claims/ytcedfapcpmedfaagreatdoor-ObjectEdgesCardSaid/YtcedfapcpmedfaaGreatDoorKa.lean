/- Words on memory: slices that are read, cut, handed on; plain lemmas on lists and regions. No condition.
   Words on memory, second part: what a call may have changed (Kp); slices of the call's own, wherever they begin (Win); append to them. No condition.
   Words on memory, third part: loads of several cells in every kind of region, a new row that is filled. No condition.
   A region that draws its order: operations that read, or call what only reads and draws, ahead of a forced end (a store, say). One walk in the text's order serves every order. No condition.
   A region that draws its order, whose first operation is pure and may come at any time: taken first; then quiet operations ahead of a forced end. No condition.
   Words of Mem and MemB at this translation's own types: append to bytes, text of bytes. No condition.
   Names of objects as functions on lists of bytes: signs, what a text tells. No condition.
   Signs: strings.IndexByte among the digits, isHex, digit. Condition: a text has at most 2^40 bytes.
   Hex and the reference's Hex tell a name's signs. No condition.
   The reference's Hex tells a name's signs. No condition.
   Parse and the reference's Parse tell a text's name. Condition: a text has at most 2^40 bytes.
   The reference's Parse tells a text's name. Condition: a text has at most 2^40 bytes.
   The order of names is that of their texts; a text that is turned tells another name or none. No condition.
   Names are compared cell by cell. No condition.
   An argument of the type of names is twenty bytes. No condition. -/
import Derived.WalkKit
import Derived.Lib.Hide
import Derived.Deep.QuietTactic
import Derived.BigQuiet
import Derived.Laws.CopyOwn
import Derived.Lib.SlBytesConst
import Derived.OpenShut
import Derived.Laws.AppendOwnNone
import Derived.Deep.AppendSrc
import Derived.StillTailTactics
import Derived.Deep.DeepFit
import Derived.Deep.DeepMust
import Derived.Deep.RegionLaw
import Derived.Deep.CutBlock
import Derived.StillTail
import Derived.Test.YtcedfapcpmedfaaGreatDoorProg
import Derived.Lib.SliceRun
import Derived.Lib.Strings
import Derived.Lib.Bytealg
import Derived.Lib.Slices
import Derived.Lib.Walk
import Derived.ChangeKeysEq
import Derived.StillTactics
import Derived.Laws.StructEq
import Derived.WideKeyArr2
import Derived.ChangeSame
namespace Go.Proofs.YtcedfapcpmedfaaGreatDoor
section
open Go.RowKit
/-- The cells of a slice read as these values. -/
def Sl (w : World) (A : Option Addr) (l : List Value) : Prop :=
  ∀ j v, l[j]? = some v → ∃ ad, A = some ad ∧ w.cell? (ad.add j) = some v
theorem Sl.nil (w : World) (A : Option Addr) : Sl w A [] := fun j v h => by simp at h
theorem Sl.below {w w' : World} {A : Option Addr} {l : List Value} (h : Sl w A l) (hb : Below w.heap.size w w') : Sl w' A l := fun j v hj => by
  obtain ⟨ad, e, hc⟩ := h j v hj
  exact ⟨ad, e, (hb.cell (World.block_lt_of_cell? w _ hc)).trans hc⟩
theorem add_plain (b o j : Nat) : (⟨b, o, none⟩ : Addr).add j = ⟨b, o + j, none⟩ := by unfold Addr.add; split <;> simp_all
theorem Sl.of_block {w : World} {b off : Nat} {cs : Array Value} {t : TypeId} {fr : Nat × Nat} (h : w.heap[b]? = some (.cells cs t fr)) {l : List Value}
    (hl : ∀ j v, l[j]? = some v → cs[off + j]? = some v) : Sl w (some ⟨b, off, none⟩) l := fun j v hj => by
  refine ⟨_, rfl, ?_⟩
  rw [add_plain]
  simp only [World.cell?, h]
  exact hl j v hj
theorem Sl.take {w : World} {A : Option Addr} {l : List Value} (h : Sl w A l) (n : Nat) : Sl w A (l.take n) := fun j v hj => by
  rw [List.getElem?_take] at hj
  split at hj
  · exact h j v hj
  · cases hj
theorem Sl.drop {w : World} {b off : Nat} {l : List Value} (h : Sl w (some ⟨b, off, none⟩) l) (n : Nat) : Sl w (some ⟨b, off + n, none⟩) (l.drop n) := fun j v hj => by
  rw [List.getElem?_drop] at hj
  obtain ⟨ad, e, hc⟩ := h _ v hj
  injection e with e
  subst e
  rw [add_plain] at hc
  refine ⟨_, rfl, ?_⟩
  rw [add_plain, Nat.add_assoc]
  exact hc
/-- where a slice that is cut in front begins -/
def cutA (A : Option Addr) (c k s : Nat) : Option Addr := if c = k then A else A.map (·.add (k * s))
theorem cutA_zero (A : Option Addr) (c s : Nat) : cutA A c 0 s = A := by
  unfold cutA; split
  · rfl
  · cases A <;> simp [Addr.add]
theorem Sl.cut {w : World} {A : Option Addr} {l : List Value} (h : Sl w A l) (k c s : Nat) (hc : l.length ≤ c * s) : Sl w (cutA A c k s) (l.drop (k * s)) := fun j v hj => by
  rw [List.getElem?_drop] at hj
  have hlt : k * s + j < l.length := by
    rcases Nat.lt_or_ge (k * s + j) l.length with h | h
    · exact h
    · rw [List.getElem?_eq_none h] at hj; cases hj
  have hne : c ≠ k := fun e => by subst e; omega
  obtain ⟨ad, e, hc⟩ := h _ v hj
  subst e
  exact ⟨ad.add (k * s), by simp [cutA, hne], by rw [Addr.add_add]; exact hc⟩
theorem wp_region_quietC {P : Program} {C : World → Prop} {id : Nat} {Q : Exit → Act → World → Prop} {a : Act} {w : World} {l : List Oper} (hC : C w.drew) (hm : P.follows .mixedOrders = true) (hB : Region.lexB .any l.toArray = true)
    (h : wpQuiet P l.toArray C (fun a' => ∀ w', C w' → Q .normal a' w') l a) : (Code.region id l.toArray true).wp P Q a w :=
  wp_region_quiet (C := C) hm hB hC (by simpa using h)
theorem quietB {P : Program} {f : FuncId} {args : Array Value} {W w : World} {v : Value} (hb : Below W.heap.size W w) (h : Calls P f args w fun e w' => e = .returned v ∧ Below w.heap.size w w') :
    Calls P f args w fun e w' => e = .returned v ∧ Below W.heap.size W w' := h.mono fun _ _ ⟨he, h'⟩ => ⟨he, hb.trans (h'.mono hb.size)⟩
theorem quietS {P : Program} {f : FuncId} {args : Array Value} {W w : World} {v : Value} (hb : Below W.heap.size W w) (h : Calls P f args w fun e w' => e = .returned v ∧ w = w') :
    Calls P f args w fun e w' => e = .returned v ∧ Below W.heap.size W w' := h.mono fun _ _ ⟨he, h'⟩ => ⟨he, h' ▸ hb⟩
/-- append(s, x...) where s is the call's own and x can be read -/
theorem wpList_app {P : Program} {w : World} {ops : Array Oper} {rest : List Oper} {o : Oper} {a : Act} {Q : Exit → Act → World → Prop} (hgd : o.guard = none) (s x : Operand) (t : TypeId)
    (ho : o.op = .call { callee := .builtin .append, args := #[s, x], argTypes := #[t, t] })
    (base : Nat) (e : TypeId) (z : Value) (size bytes : Nat) (ht : P.underlying t = some (.slice e)) (hinfo : (P.info? e).map (fun i => (i.zero, i.size, i.bytes)) = some (some z, size, bytes))
    (hzs : z.cells.size = size) (hsz : 0 < size)
    (v : Value) (n : Nat) (xs : List Value) (hs : a.eval s = v) (hown : w.ownsRow base e size v n xs)
    (A : Option Addr) (m c : Nat) (news : List Value) (hx : a.eval x = .slice A m c) (hl : news.length = m * size) (hnews : Sl w A news) (h1 : ∀ u ∈ news, u.oneCell' = true)
    (hbytes : (n + m) * bytes ≤ 140737488355328) (h63 : n + m ≤ maxLen) (hbase : base ≤ w.heap.size)
    (h : ∀ v' w', w'.ownsRow base e size v' (n + m) (xs ++ news) → w.grownBy w' v.ownBlock → wpList P ops Q rest (a.put o.dst v') w') : wpList P ops Q (o :: rest) a w := by
  obtain ⟨i, hi, hz, hsize, hby⟩ := info_parts hinfo
  cases A with
  | some ad =>
    exact wpList_append_own w hgd s x t ho base e i z size bytes ht hi hz hsize hby hzs hsz v n xs hs hown ad m c news hx hl
      (fun j u hj => by obtain ⟨ad', e', hc⟩ := hnews j u hj; injection e' with e'; subst e'; exact hc) h1 h63 hbytes hbase (fun v' w' h2 h3 _ => h v' w' h2 h3)
  | none =>
    have hn : news = [] := by
      cases news with
      | nil => rfl
      | cons u l => obtain ⟨ad', e', _⟩ := hnews 0 u rfl; cases e'
    subst hn
    have hm : m = 0 := by
      rcases Nat.eq_zero_or_pos m with h | h
      · exact h
      · have hp := Nat.mul_pos h hsz
        rw [List.length_nil] at hl
        omega
    subst hm
    refine wpList_plain hgd fun K hK => ?_
    have hrun : (Builtin.append_ #[t, t] o.type #[v, .slice none 0 c]).run P w = .ok v w := by
      rcases hown.2 with ⟨rfl, rfl⟩ | ⟨g, cap, cur, rfl, _, _, hnc, _⟩
      · simp [Builtin.append_, run_underlying ht, sizeOf, typeInfo, hi, Builtin.lenOf, Builtin.firstCells]
      · simp [Builtin.append_, run_underlying ht, sizeOf, typeInfo, hi, Builtin.lenOf, Builtin.firstCells, hnc, storeCells]
    unfold Oper.wp
    simp [execOp, ho, resolve, invoke, builtin, hs, hx, hrun, Result.andThen]
    exact hK _ _ (h v w (by simpa using hown) ⟨rfl, rfl, rfl, Nat.le_refl _, fun _ _ _ => rfl⟩)
theorem quietN {P : Program} {f : FuncId} {args : Array Value} {w : World} {n : Nat} {v : Value}
    (h : Calls P f args (w.drewN n) fun e w' => e = .returned v ∧ w.drewN n = w') : Calls P f args (w.drewN n) fun e w'' => e = .returned v ∧ ∃ m, w'' = w.drewN m :=
  h.mono fun _ _ ⟨he, hm⟩ => ⟨he, n, hm.symm⟩
/-- bytes as values -/
def bv (c : UInt8) : Value := .int .u8 c.toNat
def bvs (l : List UInt8) : List Value := l.map bv
@[simp] theorem bvs_length (l : List UInt8) : (bvs l).length = l.length := by simp [bvs]
abbrev Bs (w : World) (A : Option Addr) (l : List UInt8) : Prop := Sl w A (bvs l)
theorem Bs.at {w : World} {A : Option Addr} {l : List UInt8} (h : Bs w A l) {j : Nat} (hj : j < l.length) :
    ∃ ad, A = some ad ∧ w.cell? (ad.add j) = some (.int .u8 (l[j].toNat : Int)) :=
  h j _ (by simp [bvs, bv, hj])
theorem Bs.take {w : World} {A : Option Addr} {l : List UInt8} (h : Bs w A l) (k : Nat) : Bs w A (l.take k) := by
  have := Sl.take h k
  unfold Bs bvs at *
  rwa [List.map_take]
theorem Bs.cut {w : World} {A : Option Addr} {l : List UInt8} (h : Bs w A l) (k c : Nat) (hc : l.length ≤ c) : Bs w (cutA A c k 1) (l.drop k) := by
  have := Sl.cut h k c 1 (by simpa using hc)
  unfold Bs bvs at *
  rw [Nat.mul_one] at this
  rwa [List.map_drop]
theorem bvs_append (a b : List UInt8) : bvs (a ++ b) = bvs a ++ bvs b := by simp [bvs]
theorem bvs_one (l : List UInt8) : ∀ u ∈ bvs l, u.oneCell' = true := fun u hu => by
  obtain ⟨c, _, rfl⟩ := List.mem_map.1 hu
  rfl
/-- a slice of the call's own reads as these bytes -/
abbrev Own (w : World) (B e : Nat) (v : Value) (l : List UInt8) : Prop := w.ownsRow B e 1 v l.length (bvs l)
theorem Own.reads {w : World} {B e : Nat} {v : Value} {l : List UInt8} (h : Own w B e v l) : ∃ A c, v = .slice A l.length c ∧ l.length ≤ c ∧ Bs w A l := by
  obtain ⟨hl, h⟩ := h
  rcases h with ⟨rfl, h0⟩ | ⟨g, cap, cur, rfl, _, hg, hc, _, _, ht⟩
  · have : l = [] := List.eq_nil_of_length_eq_zero h0
    subst this
    exact ⟨none, 0, rfl, by simp, Sl.nil _ _⟩
  · refine ⟨_, cap, rfl, hc, Sl.of_block hg fun j v hj => ?_⟩
    rw [← ht, List.getElem?_take] at hj
    split at hj
    · simpa using hj
    · cases hj
theorem Own.at {w : World} {B e n c : Nat} {A : Option Addr} {l : List UInt8} (h : Own w B e (.slice A n c) l) : Bs w A l := by
  obtain ⟨A', c', he, _, hA⟩ := h.reads
  injection he with h1 _ _
  rw [h1]; exact hA
theorem ownsRow_below {w w' : World} {B e size n : Nat} {v : Value} {xs : List Value} (h : w.ownsRow B e size v n xs) (hb : Below w.heap.size w w') : w'.ownsRow B e size v n xs :=
  h.kept (row := none) ⟨hb.os, hb.tape, hb.output, hb.size, fun i hi _ => hb.block i hi⟩ (by cases v.ownBlock <;> simp)
theorem ownsRow_keep {w w' : World} {B C e size n : Nat} {v : Value} {xs : List Value} (h : w.ownsRow B e size v n xs) (hb : Below C w w') (hC : ∀ g, v.ownBlock = some g → g < C) : w'.ownsRow B e size v n xs := by
  obtain ⟨h1, h⟩ := h
  refine ⟨h1, ?_⟩
  rcases h with h | ⟨g, cap, cur, rfl, h2, h3, h4⟩
  · exact .inl h
  · exact .inr ⟨g, cap, cur, rfl, h2, (hb.block g (hC g rfl)).trans h3, h4⟩
theorem Below.drewN {B : Nat} {a w : World} (h : Below B a w) (n : Nat) : Below B a (w.drewN n) := ⟨h.os, h.tape, h.output, h.size, h.block⟩
theorem Own.empty {w : World} {B e : Nat} (hB : B ≤ w.heap.size) : Own (w.alloc (.cells #[] e)) B e (.slice (some ⟨w.heap.size, 0, none⟩) 0 0) [] :=
  World.ownsRow_lit w #[] 0 hB (by unfold maxLen; omega) rfl
theorem Below.app {B : Nat} {a w w' : World} {e size n : Nat} {v : Value} {xs : List Value} (h : Below B a w) (hown : w.ownsRow B e size v n xs) (hg : w.grownBy w' v.ownBlock) (hB : B ≤ w.heap.size) : Below B a w' :=
  h.grown hg hB (fun k hk => (hown.lt k hk).1)
/-- an argument of bytes, as the row's frame hands it over -/
theorem bytes_of_row {w : World} {a : Option Addr} {len cap : Nat} {zs : List Int}
    (h : (a = none ∧ len = 0 ∧ cap = 0 ∧ zs = []) ∨ ∃ x, a = some x ∧ len ≤ cap ∧ cap ≤ maxLen ∧ zs.length = cap ∧ (∀ i, i < zs.length → w.cell? (x.add i) = some (.int .u8 (zs.getD i 0))) ∧ ∀ n ∈ zs, (Lit.int .u8 n).wf = true) :
    ∃ l : List UInt8, len = l.length ∧ l.length ≤ cap ∧ cap ≤ maxLen ∧ Bs w a l := by
  rcases h with ⟨rfl, rfl, rfl, rfl⟩ | ⟨x, rfl, h1, h2, h3, h4, h5⟩
  · exact ⟨[], rfl, by simp, by simp, Sl.nil _ _⟩
  · have hlen : ((zs.take len).map fun n => UInt8.ofNat n.toNat).length = len := by simp; omega
    refine ⟨(zs.take len).map fun n => UInt8.ofNat n.toNat, hlen.symm, by rw [hlen]; exact h1, h2, fun j v hj => ⟨x, rfl, ?_⟩⟩
    have hlt : j < len := by
      rcases Nat.lt_or_ge j len with h | h
      · exact h
      · rw [List.getElem?_eq_none (by simp; omega)] at hj; cases hj
    have hz : j < zs.length := by omega
    have hb := bounds_u8 (h5 zs[j] (List.getElem_mem hz))
    rw [h4 j hz]
    simp [bvs, bv, hlt, hz] at hj
    rw [← hj, List.getD_eq_getElem?_getD, List.getElem?_eq_getElem hz]
    simp only [Option.getD_some]
    congr 2
    omega
theorem ints_of_row {w : World} {k : IntKind} {a : Option Addr} {len cap : Nat} {zs : List Int}
    (h : (a = none ∧ len = 0 ∧ cap = 0 ∧ zs = []) ∨ ∃ x, a = some x ∧ len ≤ cap ∧ cap ≤ maxLen ∧ zs.length = cap ∧ (∀ i, i < zs.length → w.cell? (x.add i) = some (.int k (zs.getD i 0))) ∧ ∀ n ∈ zs, (Lit.int k n).wf = true) :
    ∃ l : List Int, len = l.length ∧ l.length ≤ cap ∧ cap ≤ maxLen ∧ Sl w a (l.map (Value.int k)) ∧ ∀ n ∈ l, (Lit.int k n).wf = true := by
  rcases h with ⟨rfl, rfl, rfl, rfl⟩ | ⟨x, rfl, h1, h2, h3, h4, h5⟩
  · exact ⟨[], rfl, by simp, by simp, Sl.nil _ _, by simp⟩
  · have hlen : (zs.take len).length = len := by simp; omega
    refine ⟨zs.take len, hlen.symm, by rw [hlen]; exact h1, h2, fun j v hj => ⟨x, rfl, ?_⟩, fun n hn => h5 n (List.mem_of_mem_take hn)⟩
    have hlt : j < len := by
      rcases Nat.lt_or_ge j len with h | h
      · exact h
      · rw [List.getElem?_eq_none (by simp; omega)] at hj; cases hj
    have hz : j < zs.length := by omega
    rw [h4 j hz]
    simp [hlt, hz] at hj
    rw [← hj, List.getD_eq_getElem?_getD, List.getElem?_eq_getElem hz]; rfl
/-- a slice of slices of bytes -/
def Rws (w : World) (A : Option Addr) (ls : List (List UInt8)) : Prop :=
  ∀ j l, ls[j]? = some l → ∃ ad Aj cj, A = some ad ∧ w.cell? (ad.add j) = some (.slice Aj l.length cj) ∧ l.length ≤ cj ∧ Bs w Aj l
theorem Rws.below {w w' : World} {A : Option Addr} {ls : List (List UInt8)} (h : Rws w A ls) (hb : Below w.heap.size w w') : Rws w' A ls := fun j l hj => by
  obtain ⟨ad, Aj, cj, e, hc, hl, hs⟩ := h j l hj
  exact ⟨ad, Aj, cj, e, (hb.cell (World.block_lt_of_cell? w _ hc)).trans hc, hl, hs.below hb⟩
theorem rows_of_row {w : World} {a : Option Addr} {len cap : Nat} {A : Nat → Option Addr} {L C : Nat → Nat} {Z : Nat → List Int}
    (h : (a = none ∧ len = 0 ∧ cap = 0) ∨ ∃ x, a = some x ∧ len ≤ cap ∧ cap ≤ maxLen ∧ ∀ r, r < cap → w.cell? (x.add r) = some (.slice (A r) (L r) (C r)) ∧ L r ≤ C r ∧ (Z r).length = C r ∧ (∀ n ∈ Z r, (Lit.int .u8 n).wf = true) ∧ (A r = none → C r = 0) ∧
      ∀ a', A r = some a' → ∀ c, c < C r → w.cell? (a'.add c) = some (.int .u8 ((Z r).getD c 0))) :
    ∃ l : List (List UInt8), len = l.length ∧ l.length ≤ cap ∧ cap ≤ maxLen ∧ Rws w a l := by
  rcases h with ⟨rfl, rfl, rfl⟩ | ⟨x, rfl, h1, h2, h3⟩
  · exact ⟨[], rfl, by simp, by simp, fun j l hj => by simp at hj⟩
  · let row (r : Nat) : List UInt8 := ((Z r).take (L r)).map fun n => UInt8.ofNat n.toNat
    have hlen : ((List.range len).map row).length = len := by simp
    refine ⟨(List.range len).map row, hlen.symm, by rw [hlen]; exact h1, h2, fun j l hj => ?_⟩
    have hlt : j < len := by
      rcases Nat.lt_or_ge j len with h | h
      · exact h
      · rw [List.getElem?_eq_none (by simp; omega)] at hj; cases hj
    simp only [List.getElem?_map, List.getElem?_range hlt, Option.map_some, Option.some.injEq] at hj
    subst hj
    obtain ⟨hc, hL, hz, hwf, hnone, hcell⟩ := h3 j (by omega)
    have hrl : (row j).length = L j := by simp [row]; omega
    refine ⟨x, A j, C j, rfl, by rw [hrl]; exact hc, by rw [hrl]; exact hL, fun i v hi => ?_⟩
    have hil : i < L j := by
      rcases Nat.lt_or_ge i (L j) with h | h
      · exact h
      · rw [List.getElem?_eq_none (by rw [bvs_length, hrl]; exact h)] at hi; cases hi
    cases hA : A j with
    | none => have := hnone hA; omega
    | some ad =>
      refine ⟨ad, rfl, ?_⟩
      have hzi : i < (Z j).length := by omega
      have hb := bounds_u8 (hwf (Z j)[i] (List.getElem_mem hzi))
      rw [hcell ad hA i (by omega)]
      simp [row, bvs, bv, hil, hzi] at hi
      rw [← hi, List.getD_eq_getElem?_getD, List.getElem?_eq_getElem hzi]
      simp only [Option.getD_some]
      congr 2
      omega
theorem foldl_take {α β : Type} (f : α → β → α) (a : α) (l : List β) (k : Nat) (h : k < l.length) : (l.take (k + 1)).foldl f a = f ((l.take k).foldl f a) l[k] := by
  rw [List.take_succ_eq_append_getElem h, List.foldl_append]; rfl
theorem ret_int {k : IntKind} {a b : Int} (h : a = b) : Ending.returned (.int k a) = .returned (.int k b) := by rw [h]
theorem int_eq {k : IntKind} {a b : Int} (h : a = b) : Value.int k a = .int k b := by rw [h]
end
section
open Go.RowKit
/-- what was there and is not in S is as it was -/
structure Kp (S : Nat → Prop) (w w' : World) : Prop where
  os : w'.os = w.os
  tape : w'.tape = w.tape
  output : w'.output = w.output
  size : w.heap.size ≤ w'.heap.size
  block : ∀ k, k < w.heap.size → ¬ S k → w'.heap[k]? = w.heap[k]?
namespace Kp
theorem refl (S : Nat → Prop) (w : World) : Kp S w w := ⟨rfl, rfl, rfl, Nat.le_refl _, fun _ _ _ => rfl⟩
theorem trans {S : Nat → Prop} {a b c : World} (h : Kp S a b) (k : Kp S b c) : Kp S a c :=
  ⟨k.os.trans h.os, k.tape.trans h.tape, k.output.trans h.output, Nat.le_trans h.size k.size, fun i hi hs => (k.block i (Nat.lt_of_lt_of_le hi h.size) hs).trans (h.block i hi hs)⟩
theorem mono {S T : Nat → Prop} {w w' : World} (h : Kp S w w') (hs : ∀ k, S k → T k) : Kp T w w' := ⟨h.os, h.tape, h.output, h.size, fun i hi ht => h.block i hi (fun s => ht (hs i s))⟩
/-- what a later step may change, seen from an earlier world -/
theorem step {S T : Nat → Prop} {a b c : World} (h : Kp S a b) (k : Kp T b c) (hs : ∀ i, i < a.heap.size → T i → S i) : Kp S a c :=
  ⟨k.os.trans h.os, k.tape.trans h.tape, k.output.trans h.output, Nat.le_trans h.size k.size, fun i hi ht => (k.block i (Nat.lt_of_lt_of_le hi h.size) (fun t => ht (hs i hi t))).trans (h.block i hi ht)⟩
theorem ofBelow {S : Nat → Prop} {w w' : World} (h : Below w.heap.size w w') : Kp S w w' := ⟨h.os, h.tape, h.output, h.size, fun i hi _ => h.block i hi⟩
theorem toBelow {S : Nat → Prop} {w w' : World} {B : Nat} (h : Kp S w w') (hB : B ≤ w.heap.size) (hs : ∀ k, k < B → ¬ S k) : Below B w w' := ⟨h.os, h.tape, h.output, h.size, fun i hi => h.block i (Nat.lt_of_lt_of_le hi hB) (hs i hi)⟩
theorem alloc {S : Nat → Prop} {a w : World} (h : Kp S a w) (o : Obj) : Kp S a (w.alloc o) :=
  ⟨h.os, h.tape, h.output, Nat.le_trans h.size (by simp), fun i hi hs => (Below.heap_alloc w o i (Nat.lt_of_lt_of_le hi h.size)).trans (h.block i hi hs)⟩
theorem setCell {S : Nat → Prop} {a w : World} (h : Kp S a w) {p : Addr} (hp : S p.block ∨ a.heap.size ≤ p.block) (u : Value) : Kp S a (w.setCell p u) :=
  ⟨h.os, h.tape, h.output, by simpa [World.setCell] using h.size, fun i hi hs => (Below.heap_setCell w p u i (by
    rintro rfl
    rcases hp with hp | hp
    · exact hs hp
    · omega)).trans (h.block i hi hs)⟩
theorem drewN {S : Nat → Prop} {a w : World} (h : Kp S a w) (n : Nat) : Kp S a (w.drewN n) := ⟨h.os, h.tape, h.output, h.size, h.block⟩
theorem drew {S : Nat → Prop} {a w : World} (h : Kp S a w) : Kp S a w.drew := ⟨h.os, h.tape, h.output, h.size, h.block⟩
theorem cell {S : Nat → Prop} {w w' : World} (h : Kp S w w') {a : Addr} {v : Value} (hc : w.cell? a = some v) (hs : ¬ S a.block) : w'.cell? a = some v :=
  (World.cell?_of_block (w := w) (h.block _ (World.block_lt_of_cell? w a hc) hs)).trans hc
theorem grown {w w' : World} {row : Option Nat} (h : w.grownBy w' row) : Kp (fun k => row = some k) w w' := ⟨h.os, h.tape, h.output, h.size, fun i hi hs => h.block i hi (fun e => hs e.symm)⟩
end Kp
theorem Sl.kp {S : Nat → Prop} {w w' : World} {A : Option Addr} {l : List Value} (h : Sl w A l) (k : Kp S w w') (hs : ∀ ad, A = some ad → ¬ S ad.block) : Sl w' A l := fun j v hj => by
  obtain ⟨ad, e, hc⟩ := h j v hj
  refine ⟨ad, e, k.cell hc ?_⟩
  have : (ad.add j).block = ad.block := by unfold Addr.add; split <;> rfl
  rw [this]; exact hs ad e

/-- a slice of the call's own: n elements of so many cells each, that read as xs -/
def Win (w : World) (B : Nat) (e size : Nat) (v : Value) (n : Nat) (xs : List Value) : Prop :=
  xs.length = n * size ∧ ((v = .slice none 0 0 ∧ n = 0) ∨
    ∃ g off cap cur, v = .slice (some ⟨g, off, none⟩) n cap ∧ B ≤ g ∧ w.heap[g]? = some (.cells cur e (0, 0)) ∧ n ≤ cap ∧ cap ≤ maxLen ∧ off + cap * size ≤ cur.size ∧ (cur.toList.drop off).take (n * size) = xs)
namespace Win
variable {w w' : World} {B e size n : Nat} {v : Value} {xs : List Value}
theorem nil (w : World) (B e size : Nat) : Win w B e size (.slice none 0 0) 0 [] := ⟨by simp, .inl ⟨rfl, rfl⟩⟩
theorem ofOwns (h : w.ownsRow B e size v n xs) : Win w B e size v n xs := by
  refine ⟨h.1, ?_⟩
  rcases h.2 with h | ⟨g, cap, cur, rfl, h1, h2, h3, h4, h5, h6⟩
  · exact .inl h
  · exact .inr ⟨g, 0, cap, cur, rfl, h1, h2, h3, h4, by omega, by simpa using h6⟩
theorem block (h : Win w B e size v n xs) : ∀ g, v.ownBlock = some g → B ≤ g ∧ g < w.heap.size := by
  intro g hg
  rcases h.2 with ⟨rfl, _⟩ | ⟨g', off, cap, cur, rfl, h1, h2, _⟩
  · cases hg
  · simp [Value.ownBlock] at hg
    subst hg
    exact ⟨h1, (Array.getElem?_eq_some_iff.1 h2).1⟩
theorem keep (h : Win w B e size v n xs) (hb : ∀ g, v.ownBlock = some g → w'.heap[g]? = w.heap[g]?) : Win w' B e size v n xs := by
  refine ⟨h.1, ?_⟩
  rcases h.2 with h | ⟨g, off, cap, cur, rfl, h1, h2, h3⟩
  · exact .inl h
  · exact .inr ⟨g, off, cap, cur, rfl, h1, (hb g rfl).trans h2, h3⟩
theorem kp {S : Nat → Prop} (h : Win w B e size v n xs) (k : Kp S w w') (hs : ∀ g, v.ownBlock = some g → ¬ S g) : Win w' B e size v n xs :=
  h.keep fun g hg => k.block g (h.block g hg).2 (hs g hg)
theorem below (h : Win w B e size v n xs) (hb : Below w.heap.size w w') : Win w' B e size v n xs :=
  h.keep fun g hg => hb.block g (h.block g hg).2
theorem base {B' : Nat} (h : Win w B e size v n xs) (hB : B' ≤ B) : Win w B' e size v n xs := by
  refine ⟨h.1, ?_⟩
  rcases h.2 with h | ⟨g, off, cap, cur, rfl, h1, h2⟩
  · exact .inl h
  · exact .inr ⟨g, off, cap, cur, rfl, Nat.le_trans hB h1, h2⟩
theorem reads (h : Win w B e size v n xs) : ∃ A c, v = .slice A n c ∧ n ≤ c ∧ c ≤ maxLen ∧ Sl w A xs := by
  obtain ⟨hl, h⟩ := h
  rcases h with ⟨rfl, h0⟩ | ⟨g, off, cap, cur, rfl, _, hg, hc, hm, _, ht⟩
  · subst h0
    have : xs = [] := List.eq_nil_of_length_eq_zero (by simpa using hl)
    subst this
    exact ⟨none, 0, rfl, Nat.le_refl _, by simp, Sl.nil _ _⟩
  · refine ⟨_, cap, rfl, hc, hm, Sl.of_block hg fun j v hj => ?_⟩
    rw [← ht, List.getElem?_take] at hj
    split at hj
    · rw [List.getElem?_drop] at hj; simpa using hj
    · cases hj
theorem at_ {A : Option Addr} {c : Nat} (h : Win w B e size (.slice A n c) n xs) : Sl w A xs := by
  obtain ⟨A', c', he, _, _, hA⟩ := h.reads
  injection he with h1 _ _
  rw [h1]; exact hA
theorem form (h : Win w B e size v n xs) (hn : 0 < n) : ∃ g off cap, v = .slice (some ⟨g, off, none⟩) n cap ∧ B ≤ g ∧ g < w.heap.size ∧ n ≤ cap ∧ cap ≤ maxLen := by
  rcases h.2 with ⟨_, h0⟩ | ⟨g, off, cap, cur, rfl, h1, h2, h3, h4, _⟩
  · omega
  · exact ⟨g, off, cap, rfl, h1, (Array.getElem?_eq_some_iff.1 h2).1, h3, h4⟩
theorem take {A : Option Addr} {c k : Nat} (h : Win w B e size (.slice A n c) n xs) (hk : k ≤ n) : Win w B e size (.slice A k c) k (xs.take (k * size)) := by
  have hm : k * size ≤ n * size := Nat.mul_le_mul_right _ hk
  refine ⟨by rw [List.length_take, h.1]; exact Nat.min_eq_left hm, ?_⟩
  rcases h.2 with ⟨he, h0⟩ | ⟨g, off, cap, cur, he, h1, h2, h3, h4, h5, h6⟩
  · injection he with e1 e2 e3
    exact .inl ⟨by rw [e1, e3]; congr 1; omega, by omega⟩
  · injection he with e1 e2 e3
    subst e1 e3
    exact .inr ⟨g, off, _, cur, rfl, h1, h2, by omega, h4, h5, by rw [← h6, List.take_take, Nat.min_eq_left hm]⟩
theorem clip {A : Option Addr} {c : Nat} (h : Win w B e size (.slice A n c) n xs) : Win w B e size (.slice A n n) n xs := by
  refine ⟨h.1, ?_⟩
  rcases h.2 with ⟨he, h0⟩ | ⟨g, off, cap, cur, he, h1, h2, h3, h4, h5, h6⟩
  · injection he with e1 e2 e3
    exact .inl ⟨by rw [e1, h0], h0⟩
  · injection he with e1 e2 e3
    subst e1 e3
    exact .inr ⟨g, off, n, cur, rfl, h1, h2, Nat.le_refl _, by omega, by have := Nat.mul_le_mul_right size h3; omega, h6⟩
theorem cut {A : Option Addr} {c k : Nat} (h : Win w B e size (.slice A n c) n xs) (hk : k ≤ n) : Win w B e size (.slice (cutA A c k size) (n - k) (c - k)) (n - k) (xs.drop (k * size)) := by
  refine ⟨by rw [List.length_drop, h.1, Nat.sub_mul], ?_⟩
  rcases h.2 with ⟨he, h0⟩ | ⟨g, off, cap, cur, he, h1, h2, h3, h4, h5, h6⟩
  · injection he with e1 e2 e3
    subst e1 e3
    have : k = 0 := by omega
    subst this
    exact .inl ⟨by rw [cutA_zero]; simp [h0], by omega⟩
  · injection he with e1 e2 e3
    subst e1 e3
    by_cases hc : c = k
    · have hn : n - k = 0 := by omega
      refine .inr ⟨g, off, c - k, cur, by rw [cutA, if_pos hc], h1, h2, by omega, by omega, by have := Nat.mul_le_mul_right size (Nat.sub_le c k); omega, ?_⟩
      rw [hn, Nat.zero_mul, List.take_zero]
      refine (List.drop_eq_nil_of_le ?_).symm
      rw [h.1]
      exact Nat.mul_le_mul_right _ (by omega)
    · have hm : k * size ≤ n * size := Nat.mul_le_mul_right _ hk
      have hm2 : n * size ≤ c * size := Nat.mul_le_mul_right _ h3
      refine .inr ⟨g, off + k * size, c - k, cur, by rw [cutA, if_neg hc, Option.map_some, add_plain], h1, h2, by omega, by omega, by rw [Nat.sub_mul]; omega, ?_⟩
      rw [← h6, List.drop_take, List.drop_drop, Nat.sub_mul]
theorem set {g off c : Nat} (h : Win w B e size (.slice (some ⟨g, off, none⟩) n c) n xs) (j : Nat) (u : Value) :
    Win (w.setCell ⟨g, off + j, none⟩ u) B e size (.slice (some ⟨g, off, none⟩) n c) n (xs.set j u) := by
  refine ⟨by rw [List.length_set, h.1], ?_⟩
  rcases h.2 with ⟨he, h0⟩ | ⟨g', off', cap, cur, he, h1, h2, h3, h4, h5, h6⟩
  · cases he
  · injection he with e1 e2 e3
    injection e1 with e1
    injection e1 with e1 e1'
    subst e1 e1' e3
    refine .inr ⟨g, off, c, cur.setIfInBounds (off + j) u, rfl, h1, heap_setCell_same w g (off + j) cur e u h2, h3, h4, by simpa using h5, ?_⟩
    rw [Array.toList_setIfInBounds, List.drop_set, if_neg (by omega), Nat.add_sub_cancel_left, List.take_set, h6]
theorem cellAt {g off c : Nat} (h : Win w B e size (.slice (some ⟨g, off, none⟩) n c) n xs) (j : Nat) (hj : j < n * size) : w.cell? ⟨g, off + j, none⟩ = xs[j]? := by
  rcases h.2 with ⟨he, h0⟩ | ⟨g', off', cap, cur, he, h1, h2, h3, h4, h5, h6⟩
  · cases he
  · injection he with e1 e2 e3
    injection e1 with e1
    injection e1 with e1 e1'
    subst e1 e1' e3
    rw [cell_of_row w g (off + j) cur e (0, 0) h2, ← h6, List.getElem?_take, if_pos hj, List.getElem?_drop]
    simp
theorem free {g off c : Nat} (h : Win w B e size (.slice (some ⟨g, off, none⟩) n c) n xs) (j : Nat) : w.frozen? ⟨g, j, none⟩ = false := by
  rcases h.2 with ⟨he, h0⟩ | ⟨g', off', cap, cur, he, h1, h2, _⟩
  · cases he
  · injection he with e1 e2 e3
    injection e1 with e1
    injection e1 with e1 e1'
    subst e1
    exact frozen_of_row w g j cur e h2
end Win
theorem srcOf {P : Program} {w : World} {size : Nat} {tx e' : TypeId} (hk : P.underlying tx = some (.slice e')) {A : Option Addr} {m c : Nat} {news : List Value} (hsz : 0 < size) (hl : news.length = m * size) (hn : Sl w A news) (h1 : ∀ u ∈ news, u.oneCell' = true) :
    Src P size tx (.slice A m c) m news w := by
  cases A with
  | some ad => exact Src.ofSlice w hk ad m c news hl (fun j u hj => by obtain ⟨ad', e', hc⟩ := hn j u hj; injection e' with e'; subst e'; exact hc) h1
  | none =>
    have hnn : news = [] := by
      cases news with
      | nil => rfl
      | cons u l => obtain ⟨ad', e', _⟩ := hn 0 u rfl; cases e'
    subst hnn
    have hm : m = 0 := by
      rcases Nat.eq_zero_or_pos m with h | h
      · exact h
      · have hp := Nat.mul_pos h hsz
        rw [List.length_nil] at hl
        omega
    subst hm
    exact Src.ofNil w hk c
theorem run_appW {P : Program} {w : World} (B t tx ty e : Nat) (z : Value) (size bytes : Nat) (ht : P.underlying t = some (.slice e)) (hinfo : (P.info? e).map (fun i => (i.zero, i.size, i.bytes)) = some (some z, size, bytes))
    (hzs : z.cells.size = size) (hsz : 0 < size) (v : Value) (n : Nat) (xs : List Value) (hown : Win w B e size v n xs)
    (x : Value) (m : Nat) (news : List Value) (hs : Src P size tx x m news w) (hbytes : (n + m) * bytes ≤ 140737488355328) (h63 : n + m ≤ maxLen) (hB : B ≤ w.heap.size) :
    ∃ v' w', (Builtin.append_ #[t, tx] ty #[v, x]).run P w = .ok v' w' ∧ Win w' B e size v' (n + m) (xs ++ news) ∧ Kp (fun k => v.ownBlock = some k) w w' ∧ (v'.ownBlock = v.ownBlock ∨ v'.ownBlock = some w.heap.size) := by
  obtain ⟨i, hi, hz, hsize, hby⟩ := info_parts hinfo
  subst hsize hby
  have hl := hs.newsLen
  have hlen : (xs ++ news).length = (n + m) * i.size := by rw [List.length_append, hown.1, hl, Nat.add_mul]
  have grown : ∀ (old : Nat), old < n + m →
      Win (w.drew.alloc (.cells ((xs ++ news).toArray ++ Builtin.zeroCells z.cells (grownCap w (n + m) old e - (n + m))) e)) B e i.size
        (.slice (some ⟨w.heap.size, 0, none⟩) (n + m) (grownCap w (n + m) old e)) (n + m) (xs ++ news) := by
    intro old ho
    have hge := grownCap_ge w (n + m) old e
    have hcm : grownCap w (n + m) old e ≤ maxLen := grownCap_le_maxLen w (n + m) old e h63
    refine ⟨hlen, .inr ⟨w.heap.size, 0, _, _, rfl, hB, heap_alloc_new w.drew _, hge, hcm, ?_, ?_⟩⟩
    · simp only [Array.size_append, List.size_toArray, size_zeroCells, hzs, hlen, ← Nat.add_mul]
      refine Nat.le_of_eq ?_
      rw [Nat.zero_add]
      congr 1
      omega
    · rw [Array.toList_append, List.toList_toArray, List.drop_zero, ← hlen]
      exact List.take_left
  have hkp : ∀ o, Kp (fun k => v.ownBlock = some k) w (w.drew.alloc o) := fun o => ((Kp.refl _ w).drew).alloc o
  have hgs : ∀ old, old < n + m → Builtin.nextslicecap (n + m) old * i.bytes ≤ 281474976710656 := fun old h => growslice_fits h hbytes
  have h63' : ((n + m : Nat) : Int) ≤ 9223372036854775807 := by simp only [maxLen] at h63; omega
  rcases hown.2 with ⟨rfl, rfl⟩ | ⟨g, off, cap, cur, rfl, hbg, hg, hnc, hcm, hcs, htake⟩
  · have hx : xs = [] := List.eq_nil_of_length_eq_zero (by simpa using hown.1)
    subst hx
    by_cases hm : m = 0
    · subst hm
      have hn : news = [] := List.eq_nil_of_length_eq_zero (by simpa using hl)
      subst hn
      refine ⟨.slice none 0 0, w, ?_, Win.nil w B e i.size, Kp.refl _ _, .inl rfl⟩
      rcases hs.kind with ⟨e', hk⟩ | hk <;> simp [Builtin.append_, run_underlying ht, run_underlying hk, sizeOf, typeInfo, hi, hs.len, hs.cells]
    · have hr := run_append_grow_src (P := P) w t tx ty e i z ht hi hz none 0 0 [] (by simp [Builtin.firstCells]) x m news hs (by omega) (by simpa using h63') (hgs 0 (by omega))
      refine ⟨_, _, hr, ?_, hkp _, .inr rfl⟩
      exact grown 0 (by omega)
  · by_cases hroom : n + m ≤ cap
    · have hfit : off + n * i.size + 0 + news.length ≤ cur.size := by
        have := Nat.mul_le_mul_right i.size hroom
        rw [hl, Nat.add_zero, Nat.add_assoc, ← Nat.add_mul]; omega
      have hst := run_storeCells_at P g (off + n * i.size) e news 0 cur w hg hfit hs.one
      simp only [Nat.add_zero] at hst
      have hr : (Builtin.append_ #[t, tx] ty #[.slice (some ⟨g, off, none⟩) n cap, x]).run P w = .ok (.slice (some ⟨g, off, none⟩) (n + m) cap) (w.setRow g (cur.toList.take (off + n * i.size) ++ news ++ cur.toList.drop (off + n * i.size + news.length)).toArray) := by
        rcases hs.kind with ⟨e', hk⟩ | hk <;> simp [Builtin.append_, run_underlying ht, run_underlying hk, sizeOf, typeInfo, hi, hs.len, hroom, hs.cells, Addr.add_lit, hst]
      refine ⟨_, _, hr, ⟨hlen, .inr ⟨g, off, cap, _, rfl, hbg, setRow_heap w g cur _ e _ hg, hroom, hcm, ?_, ?_⟩⟩, ⟨rfl, rfl, rfl, by simp, fun k _ hk => setRow_other w g k _ (fun e => hk (by simp [Value.ownBlock, e]))⟩, .inl rfl⟩
      · simp only [List.size_toArray, List.length_append, List.length_take, List.length_drop, Array.length_toList]
        omega
      · have hnl : n * i.size ≤ cap * i.size := Nat.mul_le_mul_right _ hnc
        have e1 : cur.toList.take (off + n * i.size) = cur.toList.take off ++ xs := by rw [List.take_add, htake]
        have e2 : (cur.toList.take off).length = off := by rw [List.length_take, Array.length_toList]; omega
        rw [e1, List.toList_toArray, List.append_assoc, List.append_assoc, List.drop_append_of_le_length (by omega), List.drop_eq_nil_of_le (by omega), List.nil_append, ← List.append_assoc, ← hlen]
        exact List.take_left
    · have holds : ∀ j u, xs[j]? = some u → w.cell? ((⟨g, off, none⟩ : Addr).add j) = some u := fun j u hj => by
        obtain ⟨ad, ea, hc⟩ := hown.at_ j u hj
        injection ea with ea
        subst ea
        exact hc
      have hr := run_append_grow_src (P := P) w t tx ty e i z ht hi hz (some ⟨g, off, none⟩) n cap xs (run_firstCells_some (P := P) w.drew i.size n ⟨g, off, none⟩ n cap xs hown.1 (by simpa using holds)) x m news hs (by omega) h63' (hgs cap (by omega))
      exact ⟨_, _, hr, grown cap (by omega), hkp _, .inr rfl⟩
theorem wpList_appW {P : Program} {w : World} {ops : Array Oper} {rest : List Oper} {o : Oper} {a : Act} {Q : Exit → Act → World → Prop} (hgd : o.guard = none) (s x : Operand) (t tx : TypeId)
    (ho : o.op = .call { callee := .builtin .append, args := #[s, x], argTypes := #[t, tx] })
    (B e : Nat) (z : Value) (size bytes : Nat) (ht : P.underlying t = some (.slice e)) (hinfo : (P.info? e).map (fun i => (i.zero, i.size, i.bytes)) = some (some z, size, bytes))
    (hzs : z.cells.size = size) (hsz : 0 < size) (v : Value) (n : Nat) (xs : List Value) (hs : a.eval s = v) (hown : Win w B e size v n xs)
    (y : Value) (m : Nat) (news : List Value) (hx : a.eval x = y) (hsrc : Src P size tx y m news w) (hbytes : (n + m) * bytes ≤ 140737488355328) (h63 : n + m ≤ maxLen) (hB : B ≤ w.heap.size)
    (h : ∀ v' w', Win w' B e size v' (n + m) (xs ++ news) → Kp (fun k => v.ownBlock = some k) w w' → (v'.ownBlock = v.ownBlock ∨ v'.ownBlock = some w.heap.size) → wpList P ops Q rest (a.put o.dst v') w') : wpList P ops Q (o :: rest) a w := by
  refine wpList_plain hgd fun K hK => ?_
  obtain ⟨v', w', hrun, h1, h2, h3⟩ := run_appW (P := P) B t tx o.type e z size bytes ht hinfo hzs hsz v n xs hown y m news hsrc hbytes h63 hB
  unfold Oper.wp
  simp [execOp, ho, resolve, invoke, builtin, hs, hx, hrun, Result.andThen]
  exact hK _ _ (h v' w' h1 h2 h3)
/-- a struct or an array is loaded, wherever it lies -/
theorem wpList_load_agg {P : Program} {w : World} {ops : Array Oper} {rest : List Oper} {o : Oper} {a : Act} {Q : Exit → Act → World → Prop} (hgd : o.guard = none) (ty : TypeId) (x : Operand) (ho : o.op = .load ty x)
    (ad : Addr) (hx : a.eval x = .pointer (some ad)) (cs : List Value) (d : TypeDesc) (hc : Sl w (some ad) cs)
    (hu : P.underlying ty = some d) (hd : (match d with | .struct _ | .array _ _ => true | _ => false) = true) (hi : (P.info? ty).map (·.size) = some cs.length)
    (h : wpList P ops Q rest (a.put o.dst (.agg cs.toArray)) w) : wpList P ops Q (o :: rest) a w := by
  refine wpList_plain hgd fun K hK => ?_
  have hl : (loadCells ad cs.length).run P w = .ok cs.toArray w :=
    run_loadCells_list (P := P) w ad cs (fun j v hv => by obtain ⟨ad', e, hc⟩ := hc j v hv; injection e with e; subst e; exact hc)
  have hrun : (loadVar ty ad).run P w = .ok (.agg cs.toArray) w := by
    cases hq : P.info? ty with
    | none => simp [hq] at hi
    | some i =>
      have hs : i.size = cs.length := by simpa [hq] using hi
      have hagg : (isAgg ty).run P w = .ok true w := by
        unfold isAgg
        rw [Sem.run_bind, run_underlying hu w]
        cases d <;> simp_all
      simp [loadVar, Sem.run_bind, hagg, sizeOf, typeInfo, hq, hs, hl]
  unfold Oper.wp execOp
  simp only [ho, hx, Instr.loadAt, Instr.sureAddr, Sem.run_bind, Sem.run_pure, Result.andThen_ok, hrun]
  exact hK _ _ h
theorem Sl.part {w : World} {A : Option Addr} {l : List Value} (h : Sl w A l) (m : Nat) (cs : List Value) (hcs : ∀ j v, cs[j]? = some v → l[m + j]? = some v) (hne : cs ≠ []) : ∃ ad, A = some ad ∧ Sl w (some (ad.add m)) cs := by
  cases cs with
  | nil => exact absurd rfl hne
  | cons c cs =>
    obtain ⟨ad, e, _⟩ := h m c (hcs 0 c rfl)
    refine ⟨ad, e, fun j v hj => ⟨_, rfl, ?_⟩⟩
    obtain ⟨ad', e', hc⟩ := h (m + j) v (hcs j v hj)
    rw [e] at e'
    injection e' with e'
    subst e'
    rw [Addr.add_add]; exact hc
/-- bytes of the call's own -/
abbrev WinB (w : World) (B e : Nat) (v : Value) (l : List UInt8) : Prop := Win w B e 1 v l.length (bvs l)
theorem WinB.reads {w : World} {B e : Nat} {v : Value} {l : List UInt8} (h : WinB w B e v l) : ∃ A c, v = .slice A l.length c ∧ l.length ≤ c ∧ c ≤ maxLen ∧ Bs w A l := Win.reads h
theorem WinB.readsN {w : World} {B e n : Nat} {v : Value} {l : List UInt8} (h : WinB w B e v l) (hn : l.length = n) : ∃ A c, v = .slice A n c ∧ n ≤ c ∧ c ≤ maxLen ∧ Bs w A l := by
  subst hn; exact Win.reads h
theorem WinB.len {w : World} {B e k c : Nat} {A : Option Addr} {l : List UInt8} (h : WinB w B e (.slice A k c) l) : k = l.length := by
  obtain ⟨A', c', he, _⟩ := WinB.reads h
  injection he
theorem WinB.clip {w : World} {B e k c m : Nat} {A : Option Addr} {l : List UInt8} (h : WinB w B e (.slice A k c) l) (hm : m = l.length) : WinB w B e (.slice A m m) l := by
  have hk := WinB.len h
  subst hm hk
  exact Win.clip h
theorem WinB.empty {w : World} {B e : Nat} (hB : B ≤ w.heap.size) : WinB (w.alloc (.cells #[] e)) B e (.slice (some ⟨w.heap.size, 0, none⟩) 0 0) [] :=
  Win.ofOwns (World.ownsRow_lit w #[] 0 hB (by unfold maxLen; omega) rfl)
/-- a new list of bytes is handed back, nothing that was there has changed -/
def Out (T : Nat) (l : List UInt8) (w : World) (e : Ending) (w' : World) : Prop := ∃ v, e = .returned v ∧ WinB w' w.heap.size T v l ∧ Below w.heap.size w w'
end
section
open Go.RowKit
set_option maxRecDepth 100000
set_option maxHeartbeats 4000000
set_option linter.unusedVariables false
theorem wpList_loadG {P : Program} {w : World} {ops : Array Oper} {rest : List Oper} {o : Oper} {a : Act} {Q : Exit → Act → World → Prop} (ty : TypeId) (x : Operand) (ho : o.op = .load ty x)
    (ad : Addr) (hx : a.eval x = .pointer (some ad)) (v : Value) (hl : (loadVar ty ad).run P w = .ok v w) (hw : Region.wanted o (yielded ops a.tmps) = true)
    (h : wpList P ops Q rest (a.put o.dst v) w) : wpList P ops Q (o :: rest) a w := by
  refine wpList_step fun K hK => ?_
  rw [if_pos hw]
  unfold Oper.wp execOp
  simp only [ho, hx, Instr.loadAt, Instr.sureAddr, Sem.run_bind, Sem.run_pure, Result.andThen_ok, hl]
  exact hK _ _ h
/-- a load in a region that draws its order, in every world of the class -/
theorem wpQuiet_load {P : Program} {C : World → Prop} {ops : Array Oper} {rest : List Oper} {o : Oper} {Q : Act → Prop} {l : List Value} {df : List Deferred} (ty : TypeId) (x : Operand) (ho : o.op = .load ty x)
    (ad : Addr) (hx : Act.eval ⟨l.toArray, df⟩ x = .pointer (some ad)) (v : Value) (hl : ∀ w, C w → (loadVar ty ad).run P w = .ok v w) (d : Nat) (hd : o.dst = some d) (hw : Region.wanted o (yielded ops l.toArray) = true)
    (h : wpQuiet P ops C Q rest ⟨(l.set d v).toArray, df⟩) : wpQuiet P ops C Q (o :: rest) ⟨l.toArray, df⟩ := by
  refine wpQuiet_step fun K hK => ?_
  rw [if_pos hw]
  refine ⟨v, fun w hC => ?_, ?_⟩
  · unfold Oper.quietAt execOp
    simp only [ho, hx, Instr.loadAt, Instr.sureAddr, Sem.run_bind, Sem.run_pure, Result.andThen_ok, hl w hC]
    exact ⟨rfl, rfl⟩
  · have : (Act.put ⟨l.toArray, df⟩ o.dst v) = ⟨(l.set d v).toArray, df⟩ := by
      simp [Act.put, hd]
    rw [this]
    exact hK _ h
theorem wpStill_load_agg {P : Program} {ops : Array Oper} {w : World} {Q : Act → Prop} {a : Act} {o : Oper} {rest : List Oper} (hgd : o.guard = none) (ty : TypeId) (x : Operand) (ho : o.op = .load ty x)
    (ad : Addr) (hx : a.eval x = .pointer (some ad)) (v : Value) (hl : (loadVar ty ad).run P w = .ok v w)
    (h : wpStill P ops w Q rest (a.put o.dst v)) : wpStill P ops w Q (o :: rest) a := by
  refine wpStill_step fun K hK => ?_
  have hw : Region.wanted o (yielded ops a.tmps) = true := by simp [Region.wanted, hgd]
  rw [if_pos hw]
  unfold Oper.still execOp
  simp only [ho, hx, Instr.loadAt, Instr.sureAddr, Sem.run_bind, Sem.run_pure, Result.andThen_ok, hl]
  exact ⟨rfl, hK _ h⟩
theorem results_cell_tmp1 {P : Program} {fn : Func} {p t : Tmp} {ty : TypeId} (h : fn.results = #[.cell p ty, .tmp t]) (tmps : Array Value) (w : World) (g : Nat) (T : TypeId) (cs : Array Value) (fr : Nat × Nat) (d : TypeDesc)
    (hp : tmps.getD p undef = .pointer (some ⟨g, 0, none⟩)) (hg : w.heap[g]? = some (.cells cs T fr))
    (hu : P.underlying ty = some d) (hd : (match d with | .struct _ | .array _ _ => true | _ => false) = true) (hi : (P.info? ty).map (·.size) = some cs.size) :
    (results fn tmps).run P w = .ok (.tuple #[.agg cs, tmps.getD t undef]) w := by
  have hp' : tmps[p]?.getD undef = .pointer (some ⟨g, 0, none⟩) := by simpa using hp
  simp [results, h, hp', asAddr, run_loadVar_row w g T ty cs fr d hg hu hd hi]
theorem below_setRow {B : Nat} {w w' : World} (h : Below B w w') (b : Nat) (hb : B ≤ b) (c : Array Value) : Below B w (w'.setRow b c) :=
  ⟨h.os, h.tape, h.output, by simpa using h.size, fun i hi => (setRow_other w' b i _ (by omega)).trans (h.block i hi)⟩
theorem heap_setCell_ne (w : World) (p : Addr) (u : Value) (k : Nat) (h : k ≠ p.block) : (w.setCell p u).heap[k]? = w.heap[k]? := Below.heap_setCell w p u k h
theorem new_set (w : World) (T : Nat) (c d : Array Value) : ((w.alloc (.cells c T)).setRow w.heap.size d).heap[w.heap.size]? = some (.cells d T (0, 0)) ∧ Below w.heap.size w ((w.alloc (.cells c T)).setRow w.heap.size d) :=
  ⟨setRow_heap _ _ _ _ _ _ (heap_alloc_new _ _), below_setRow ((Below.refl _ _).alloc (Nat.le_refl _) _) _ (Nat.le_refl _) _⟩
end
section
open Go.RowKit
set_option linter.unusedVariables false
variable {P : Program} {ops : Array Oper} {md : Region.Mode} {C : World → Prop}
/-- whatever order the head takes, quiet operations alone come up in it -/
def headQ (P : Program) (md : Region.Mode) (ops : Array Oper) (C : World → Prop) (n : Nat) (L : Array Bool → Act → Prop) : Nat → Array Bool → Act → Prop
  | 0, listed, a => L listed a
  | f + 1, listed, a => Region.ready md ops listed ≠ [] ∧ ∀ i ∈ Region.ready md ops listed, i < n ∧ qOp P ops C i (headQ P md ops C n L f (listed.setIfInBounds i true)) a
theorem any_headQ {n g : Nat} {L : Array Bool → Act → Prop} {Q : Exit → Act → World → Prop} (hL : ∀ listed a w, C w → L listed a → wpAny P md ops Q g listed a w) :
    ∀ (f : Nat) (listed : Array Bool) (a : Act) (w : World), C w → headQ P md ops C n L f listed a → wpAny P md ops Q (f + g) listed a w
  | 0, listed, a, w, hw, h => by rw [Nat.zero_add]; exact hL _ _ _ hw h
  | f + 1, listed, a, w, hw, h => by
    have e : f + 1 + g = (f + g) + 1 := by omega
    rw [e]
    refine ⟨fun h0 => absurd h0 h.1, fun i hi => ?_⟩
    exact wpOp_of_qOp hw (fun a' w' hw' h' => any_headQ hL f _ a' w' hw' h') (h.2 i hi).2
theorem unlisted_of {listed : Array Bool} {i : Nat} (h : listed.getD i true = false) : listed.getD i false = false := getD_both h
theorem headQ_first {n i : Nat} {oi : Oper} {v : Value} {L : Array Bool → Act → Prop} (hi : ops[i]? = some oi) (hsel : ∀ (j : Nat) (o : Oper) cs b, ops[j]? = some o → o.op ≠ .select cs b)
    (hs : Region.sinkB md ops n = true) (hc : Region.chainB md ops n = true) (hn : n < ops.size) (hin : i < n) (hdone : ∀ listed a, L listed a → ∀ j ∈ Region.ready md ops listed, n ≤ j) :
    ∀ (f : Nat) (listed : Array Bool) (a : Act), HeadInv md ops n listed →
      (∀ j oj, ops[j]? = some oj → j ≠ i → listed.getD j true = false → (∀ e ∈ oj.after, Region.binds md e = true → e.on ≠ i) → oi.apart ops oj = true) →
      i ∈ Region.ready md ops listed → YieldsIn P ops C oi v a → headQ P md ops C n L f (listed.setIfInBounds i true) (a.put oi.dst v) → headQ P md ops C n L (f + 1) listed a := by
  intro f
  induction f with
  | zero =>
    intro listed a inv _ hr hy H
    have hun := (mem_ready.1 hr).1
    refine ⟨fun h => (by rw [h] at hr; cases hr), fun j hj => ?_⟩
    have hjn : j < n := Nat.lt_of_not_le fun h => tail_waits hs hc hn inv _ i rfl hin hun j h hj
    refine ⟨hjn, ?_⟩
    by_cases hji : j = i
    · subst hji; exact hy.qOp hi H
    · have := hdone _ _ H j (ready_mono hj hji)
      omega
  | succ f ih =>
    intro listed a inv hfree hr hy H
    have hun := (mem_ready.1 hr).1
    refine ⟨fun h => (by rw [h] at hr; cases hr), fun j hj => ?_⟩
    have hjn : j < n := Nat.lt_of_not_le fun h => tail_waits hs hc hn inv _ i rfl hin hun j h hj
    refine ⟨hjn, ?_⟩
    by_cases hji : j = i
    · subst hji; exact hy.qOp hi H
    · obtain ⟨hjun, oj, hoj, hall⟩ := mem_ready.1 hj
      have hnot : ∀ e ∈ oj.after, Region.binds md e = true → e.on ≠ i := fun e he hb heq => by
        have := hall e he hb
        rw [heq, unlisted_of hun] at this
        cases this
      have h2 := qOp_put hoj (hfree j oj hoj hji hjun hnot) (fun cs b => hsel i oi cs b hi) (fun cs b => hsel j oj cs b hoj) hy (H.2 j (ready_mono hj hji)).2
      refine qOp_mono (fun a' h3 => ih (listed.setIfInBounds j true) a' (inv.set hj hjn) (fun k ok hk hki hkun hno => ?_) (ready_mono hr (Ne.symm hji)) h3.1 ?_) h2
      · refine hfree k ok hk hki ?_ hno
        by_cases hjk : j = k
        · subst hjk; exact hjun
        · rwa [getD_set_ne true hjk] at hkun
      · rw [Array.setIfInBounds_comm _ _ hji]
        exact h3.2
theorem headQ_lex {n g : Nat} {Lq : Act → Prop} (hsel : Region.noSelect ops = true) (hs : Region.sinkB md ops n = true) (hc : Region.chainB md ops n = true) (hn : n < ops.size) :
    ∀ (l : List Oper) (k : Nat) (listed : Array Bool) (a : Act), (∀ j, j < l.length → l[j]? = ops[k + j]?) → k + l.length = n → HeadInv md ops n listed →
    Region.lexHead md ops g l.length k listed = true → wpQuiet P ops C Lq l a → headQ P md ops C n (fun listed' a' => Region.seqB md ops g n listed' = true ∧ Lq a') l.length listed a
  | [], k, listed, a, _, hk, _, hB, h => by
    obtain rfl : k = n := by simpa using hk
    exact ⟨by simpa [Region.lexHead] using hB, h⟩
  | o :: l, k, listed, a, hl, hk, inv, hB, h => by
    have h0 : ops[k]? = some o := by simpa using (hl 0 (by simp)).symm
    rw [List.length_cons] at hk
    simp only [List.length_cons, Region.lexHead, Bool.and_eq_true] at hB
    have hr : k ∈ Region.ready md ops listed := by simpa using hB.1.1
    have hq : qOp P ops C k (wpQuiet P ops C Lq l) a := by unfold qOp; simp only [h0]; exact h
    obtain ⟨v, hy, hK⟩ := yieldsIn_of_qOp h0 hq
    refine headQ_first h0 (Region.noSelect_spec hsel) hs hc hn (by omega) (fun listed' a' hL => seqB_ready hL.1) l.length listed a inv (Region.free_spec h0 hB.1.2) hr hy ?_
    refine headQ_lex hsel hs hc hn l (k + 1) _ _ (fun j hj => ?_) (by omega) (inv.set hr (by omega)) hB.2 hK
    have := hl (j + 1) (by simp; omega)
    simpa [Nat.add_assoc, Nat.add_comm 1 j] using this
theorem wp_region_quiet_tail {id : Nat} {Q : Exit → Act → World → Prop} {a : Act} {w : World} {l : List Oper} (n : Nat) (hC : C w.drew) (hm : P.follows .mixedOrders = true) (hB : Region.lexTailB .any l.toArray n = true)
    (h : wpQuiet P l.toArray C (fun a' => ∀ w', C w' → wpList P l.toArray Q (l.drop n) a' w') (l.take n) a) : (Code.region id l.toArray true).wp P Q a w := by
  simp only [Region.lexTailB, Bool.and_eq_true, decide_eq_true_eq] at hB
  obtain ⟨⟨⟨⟨hsel, hn⟩, hs⟩, hc⟩, hlex⟩ := hB
  have hn' : n < l.length := by simpa using hn
  have htl : (l.take n).length = n := by simp; omega
  have hdl : (l.drop n).length = l.toArray.size - n := by simp
  have inv0 : HeadInv .any l.toArray n (Array.replicate l.toArray.size false) :=
    ⟨by simp, fun j oj _ hl => (by rw [getD_replicate_false] at hl; cases hl), fun t _ ht => getD_in (by simpa using ht) (getD_replicate_false _ _)⟩
  have H := headQ_lex (md := .any) (g := l.toArray.size - n) hsel hs hc hn (l.take n) 0 _ a (fun j hj => by
    rw [htl] at hj
    simp [hj]) (by simpa using htl) inv0 (by rw [htl]; exact hlex) h
  refine wp_region_any hm ?_
  have := any_headQ (Q := Q) (g := l.toArray.size - n) (fun listed a' w' hw' hL => by
    have := wpAny_of_seq (md := .any) (Q' := Q) (l.drop n) n listed a' w' (fun j => by simp [List.getElem?_drop]) (by rw [hdl]; exact hL.1) (hL.2 w' hw')
    rwa [hdl] at this) _ _ _ _ hC H
  rw [htl, show n + (l.toArray.size - n) = l.toArray.size by omega] at this
  exact this
/-- an operation that makes a value of the frame alone -/
theorem wpQuiet_pure {rest : List Oper} {o : Oper} {Q : Act → Prop} {l : List Value} {df : List Deferred} (d : Nat) (hd : o.dst = some d) (hw : Region.wanted o (yielded ops l.toArray) = true) (v : Value) (hr : ∀ w, (execOp (Act.eval ⟨l.toArray, df⟩) o).run P w = .ok (.value v) w)
    (h : wpQuiet P ops C Q rest ⟨(l.set d v).toArray, df⟩) : wpQuiet P ops C Q (o :: rest) ⟨l.toArray, df⟩ := by
  refine wpQuiet_step fun K hK => ?_
  rw [if_pos (by rw [show (⟨l.toArray, df⟩ : Act).tmps = l.toArray from rfl, hw])]
  refine ⟨v, fun w hC => ?_, ?_⟩
  · unfold Oper.quietAt
    rw [hr w]
    exact ⟨rfl, rfl⟩
  · have : (Act.put ⟨l.toArray, df⟩ o.dst v) = ⟨(l.set d v).toArray, df⟩ := by
      simp [Act.put, hd]
    rw [this]
    exact hK _ h
/-- an operation whose guard says no -/
theorem wpQuiet_skip {rest : List Oper} {o : Oper} {Q : Act → Prop} {l : List Value} {df : List Deferred} (d : Nat) (hd : o.dst = some d) (hw : Region.wanted o (yielded ops l.toArray) = false)
    (h : wpQuiet P ops C Q rest ⟨(l.set d undef).toArray, df⟩) : wpQuiet P ops C Q (o :: rest) ⟨l.toArray, df⟩ := by
  refine wpQuiet_step fun K hK => ?_
  rw [if_neg (by rw [show (⟨l.toArray, df⟩ : Act).tmps = l.toArray from rfl, hw]; decide)]
  have : (Act.put ⟨l.toArray, df⟩ o.dst undef) = ⟨(l.set d undef).toArray, df⟩ := by
    simp [Act.put, hd]
  rw [this]
  exact hK _ h
end
section
open Go.RowKit
set_option linter.unusedVariables false
variable {P : Program} {ops : Array Oper} {md : Region.Mode} {C : World → Prop}
def sinkK (md : Region.Mode) (ops : Array Oper) (k n : Nat) : Bool :=
  (List.range n).all fun i => decide (i < k) || (List.range (n + 1)).any fun j => decide (i < j) && Region.waitsFor md ops j i
theorem tail_waitsK {k n : Nat} {listed : Array Bool} (hs : sinkK md ops k n = true) (hc : Region.chainB md ops n = true) (hn : n < ops.size) (inv : HeadInv md ops n listed) (hk : ∀ i, i < k → listed.getD i false = true) :
    ∀ (d i : Nat), n - i = d → i < n → listed.getD i true = false → ∀ t, n ≤ t → t ∉ Region.ready md ops listed := by
  intro d
  induction d using Nat.strongRecOn with
  | _ d ih =>
    intro i hd hi hun t ht hr
    obtain ⟨_, ot, hot, hall⟩ := mem_ready.1 hr
    have htlt : t < ops.size := (Array.getElem?_eq_some_iff.1 hot).1
    by_cases htn : t = n
    · subst htn
      have h1 := List.all_eq_true.1 hs i (List.mem_range.2 hi)
      have hik : ¬ i < k := fun e => by
        have := hk i e
        rw [getD_both hun] at this
        cases this
      rw [decide_eq_false hik, Bool.false_or] at h1
      obtain ⟨j, hj, hj2⟩ := List.any_eq_true.1 h1
      simp only [Bool.and_eq_true, decide_eq_true_eq] at hj2
      obtain ⟨oj, hoj, e, he, hb, hon⟩ := Region.waitsFor_spec hj2.2
      have hjle : j ≤ t := by have := List.mem_range.1 hj; omega
      by_cases hjt : j = t
      · subst hjt
        have : oj = ot := Option.some.inj (hoj.symm.trans hot)
        subst this
        have h2 := hall e he hb
        rw [hon, getD_both hun] at h2
        cases h2
      · cases hl : listed.getD j false with
        | true =>
          have h2 := inv.closed j oj hoj hl e he hb
          rw [hon, getD_both hun] at h2
          cases h2
        | false =>
          have hjs : j < listed.size := by rw [inv.size]; omega
          exact ih (t - j) (by omega) j rfl (by omega) (getD_in hjs hl) t (Nat.le_refl _) hr
    · have h1 := List.all_eq_true.1 hc t (List.mem_range.2 htlt)
      rw [decide_eq_false (by omega), Bool.false_or] at h1
      obtain ⟨oj, hoj, e, he, hb, hon⟩ := Region.waitsFor_spec h1
      have : oj = ot := Option.some.inj (hoj.symm.trans hot)
      subst this
      have h2 := hall e he hb
      rw [hon] at h2
      have h3 := inv.tail (t - 1) (by omega) (by omega)
      rw [getD_both h3] at h2
      cases h2
theorem getD_set_keep {listed : Array Bool} {i j : Nat} (h : listed.getD i false = true) : (listed.setIfInBounds j true).getD i false = true := by
  by_cases e : j = i
  · subst e
    have hl : j < listed.size := by
      rcases Nat.lt_or_ge j listed.size with h' | h'
      · exact h'
      · simp [Array.getElem?_eq_none h'] at h
    simp [hl]
  · rw [getD_set_ne false e]; exact h
theorem headQ_firstK {k n i : Nat} {oi : Oper} {v : Value} {L : Array Bool → Act → Prop} (hi : ops[i]? = some oi) (hsel : ∀ (j : Nat) (o : Oper) cs b, ops[j]? = some o → o.op ≠ .select cs b)
    (hs : sinkK md ops k n = true) (hc : Region.chainB md ops n = true) (hn : n < ops.size) (hin : i < n) (hdone : ∀ listed a, L listed a → ∀ j ∈ Region.ready md ops listed, n ≤ j) :
    ∀ (f : Nat) (listed : Array Bool) (a : Act), HeadInv md ops n listed → (∀ i, i < k → listed.getD i false = true) →
      (∀ j oj, ops[j]? = some oj → j ≠ i → listed.getD j true = false → (∀ e ∈ oj.after, Region.binds md e = true → e.on ≠ i) → oi.apart ops oj = true) →
      i ∈ Region.ready md ops listed → YieldsIn P ops C oi v a → headQ P md ops C n L f (listed.setIfInBounds i true) (a.put oi.dst v) → headQ P md ops C n L (f + 1) listed a := by
  intro f
  induction f with
  | zero =>
    intro listed a inv hk _ hr hy H
    have hun := (mem_ready.1 hr).1
    refine ⟨fun h => (by rw [h] at hr; cases hr), fun j hj => ?_⟩
    have hjn : j < n := Nat.lt_of_not_le fun h => tail_waitsK hs hc hn inv hk _ i rfl hin hun j h hj
    refine ⟨hjn, ?_⟩
    by_cases hji : j = i
    · subst hji; exact hy.qOp hi H
    · have := hdone _ _ H j (ready_mono hj hji)
      omega
  | succ f ih =>
    intro listed a inv hk hfree hr hy H
    have hun := (mem_ready.1 hr).1
    refine ⟨fun h => (by rw [h] at hr; cases hr), fun j hj => ?_⟩
    have hjn : j < n := Nat.lt_of_not_le fun h => tail_waitsK hs hc hn inv hk _ i rfl hin hun j h hj
    refine ⟨hjn, ?_⟩
    by_cases hji : j = i
    · subst hji; exact hy.qOp hi H
    · obtain ⟨hjun, oj, hoj, hall⟩ := mem_ready.1 hj
      have hnot : ∀ e ∈ oj.after, Region.binds md e = true → e.on ≠ i := fun e he hb heq => by
        have := hall e he hb
        rw [heq, unlisted_of hun] at this
        cases this
      have h2 := qOp_put hoj (hfree j oj hoj hji hjun hnot) (fun cs b => hsel i oi cs b hi) (fun cs b => hsel j oj cs b hoj) hy (H.2 j (ready_mono hj hji)).2
      refine qOp_mono (fun a' h3 => ih (listed.setIfInBounds j true) a' (inv.set hj hjn) (fun q hq => getD_set_keep (hk q hq)) (fun k ok hk hki hkun hno => ?_) (ready_mono hr (Ne.symm hji)) h3.1 ?_) h2
      · refine hfree k ok hk hki ?_ hno
        by_cases hjk : j = k
        · subst hjk; exact hjun
        · rwa [getD_set_ne true hjk] at hkun
      · rw [Array.setIfInBounds_comm _ _ hji]
        exact h3.2
theorem headQ_lexK {k0 n g : Nat} {Lq : Act → Prop} (hsel : Region.noSelect ops = true) (hs : sinkK md ops k0 n = true) (hc : Region.chainB md ops n = true) (hn : n < ops.size) :
    ∀ (l : List Oper) (k : Nat) (listed : Array Bool) (a : Act), (∀ j, j < l.length → l[j]? = ops[k + j]?) → k + l.length = n → HeadInv md ops n listed → (∀ i, i < k0 → listed.getD i false = true) →
    Region.lexHead md ops g l.length k listed = true → wpQuiet P ops C Lq l a → headQ P md ops C n (fun listed' a' => Region.seqB md ops g n listed' = true ∧ Lq a') l.length listed a
  | [], k, listed, a, _, hk, _, _, hB, h => by
    obtain rfl : k = n := by simpa using hk
    exact ⟨by simpa [Region.lexHead] using hB, h⟩
  | o :: l, k, listed, a, hl, hk, inv, hkk, hB, h => by
    have h0 : ops[k]? = some o := by simpa using (hl 0 (by simp)).symm
    rw [List.length_cons] at hk
    simp only [List.length_cons, Region.lexHead, Bool.and_eq_true] at hB
    have hr : k ∈ Region.ready md ops listed := by simpa using hB.1.1
    have hq : qOp P ops C k (wpQuiet P ops C Lq l) a := by unfold qOp; simp only [h0]; exact h
    obtain ⟨v, hy, hK⟩ := yieldsIn_of_qOp h0 hq
    refine headQ_firstK h0 (Region.noSelect_spec hsel) hs hc hn (by omega) (fun listed' a' hL => seqB_ready hL.1) l.length listed a inv hkk (Region.free_spec h0 hB.1.2) hr hy ?_
    refine headQ_lexK hsel hs hc hn l (k + 1) _ _ (fun j hj => ?_) (by omega) (inv.set hr (by omega)) (fun q hq => getD_set_keep (hkk q hq)) hB.2 hK
    have := hl (j + 1) (by simp; omega)
    simpa [Nat.add_assoc, Nat.add_comm 1 j] using this
def lexTail1 (md : Region.Mode) (ops : Array Oper) (n : Nat) : Bool :=
  Region.noSelect ops && decide (n < ops.size) && decide (0 < n) && sinkK md ops 1 n && Region.chainB md ops n && (Region.ready md ops (Array.replicate ops.size false)).contains 0 && Region.free md ops (Array.replicate ops.size false) 0 && Region.lexHead md ops (ops.size - n) (n - 1) 1 ((Array.replicate ops.size false).setIfInBounds 0 true)
theorem wp_region_quiet_tail1 {id : Nat} {Q : Exit → Act → World → Prop} {a : Act} {w : World} {l : List Oper} (n : Nat) (hC : C w.drew) (hm : P.follows .mixedOrders = true) (hB : lexTail1 .any l.toArray n = true) (o0 : Oper) (h0 : l[0]? = some o0) (v0 : Value)
    (hQ : ∀ c a w, Q (.panic c) (a.put o0.dst v0) w → Q (.panic c) a w) (hy : Yields P l.toArray o0 v0 a)
    (h : wpQuiet P l.toArray C (fun a' => ∀ w', C w' → wpList P l.toArray Q (l.drop n) a' w') ((l.take n).drop 1) (a.put o0.dst v0)) : (Code.region id l.toArray true).wp P Q a w := by
  simp only [lexTail1, Bool.and_eq_true, decide_eq_true_eq] at hB
  obtain ⟨⟨⟨⟨⟨⟨⟨hsel, hn⟩, hn0⟩, hs⟩, hc⟩, hr0⟩, hf0⟩, hlex⟩ := hB
  have hn' : n < l.length := by simpa using hn
  have htl : ((l.take n).drop 1).length = n - 1 := by simp; omega
  have hdl : (l.drop n).length = l.toArray.size - n := by simp
  have inv0 : HeadInv .any l.toArray n (Array.replicate l.toArray.size false) :=
    ⟨by simp, fun j oj _ hl => (by rw [getD_replicate_false] at hl; cases hl), fun t _ ht => getD_in (by simpa using ht) (getD_replicate_false _ _)⟩
  have inv1 := inv0.set (i := 0) (by simpa using hr0) hn0
  have hk1 : ∀ i, i < 1 → ((Array.replicate l.toArray.size false).setIfInBounds 0 true).getD i false = true := fun i hi => by
    obtain rfl : i = 0 := by omega
    have : 0 < l.toArray.size := by omega
    simp at this ⊢
    omega
  have H := headQ_lexK (md := .any) (g := l.toArray.size - n) hsel hs hc hn ((l.take n).drop 1) 1 _ (a.put o0.dst v0) (fun j hj => by
    rw [htl] at hj
    rw [List.getElem?_drop, List.getElem?_take, if_pos (by omega)]
    simp) (by rw [htl]; omega) inv1 hk1 (by rw [htl]; exact hlex) h
  refine wp_region_any hm ?_
  have K := any_headQ (Q := Q) (g := l.toArray.size - n) (fun listed a' w' hw' hL => by
    have := wpAny_of_seq (md := .any) (Q' := Q) (l.drop n) n listed a' w' (fun j => by simp [List.getElem?_drop]) (by rw [hdl]; exact hL.1) (hL.2 w' hw')
    rwa [hdl] at this) _ _ _ _ hC H
  rw [htl] at K
  have e : l.toArray.size = (n - 1 + (l.toArray.size - n)) + 1 := by omega
  have h00 : l.toArray[0]? = some o0 := by simpa using h0
  have T := wpAny_take (md := .any) (P := P) (ops := l.toArray) (Q := Q) (i := 0) (oi := o0) (v := v0) (fuel := n - 1 + (l.toArray.size - n)) (listed := Array.replicate l.toArray.size false) (a := a) (w := w.drew) h00 hsel hf0 hr0 hQ hy K
  rwa [← e] at T
end
section
open Go.RowKit
set_option maxRecDepth 100000
set_option maxHeartbeats 4000000
set_option linter.unusedVariables false
theorem Tryz.info5 : (Tryz.prog.info? 5).map (fun i => (i.zero, i.size, i.bytes)) = some (some (.int .u8 0), 1, 1) := by kernel_rfl
theorem slice_clip {P : Program} {T e : TypeId} (hT : P.underlying T = some (.slice e)) (hz : ∀ w : World, ∃ s, (sizeOf e).run P w = .ok s w) (A : Option Addr) (n c : Nat) (h : n ≤ c) (w : World) :
    (Instr.slice T (.slice A n c) none (some (.int .i64 n)) (some (.int .i64 n))).run P w = .ok (.slice A n n) w := by
  obtain ⟨s, hs⟩ := hz w
  have h1 : ((n : Int) ≤ (c : Int)) := by omega
  simp [Instr.slice, run_underlying hT, Instr.sliceBounds, run_sliceBound, hs, h1]
  cases A <;> simp [Addr.add]
/-- append of bytes to bytes of the call's own -/
theorem appW34 {w : World} {ops : Array Oper} {rest : List Oper} {o : Oper} {a : Act} {Q : Exit → Act → World → Prop} (hgd : o.guard = none) (s x : Operand)
    (ho : o.op = .call { callee := .builtin .append, args := #[s, x], argTypes := #[22, 22] })
    (B : Nat) (v : Value) (l : List UInt8) (hs : a.eval s = v) (hown : WinB w B 5 v l) (A : Option Addr) (c : Nat) (m : List UInt8) (hx : a.eval x = .slice A m.length c) (hA : Bs w A m)
    (hb : l.length + m.length ≤ 140737488351232) (hB : B ≤ w.heap.size)
    (h : ∀ v' w', WinB w' B 5 v' (l ++ m) → Kp (fun k => v.ownBlock = some k) w w' → (v'.ownBlock = v.ownBlock ∨ v'.ownBlock = some w.heap.size) → wpList Tryz.prog ops Q rest (a.put o.dst v') w') : wpList Tryz.prog ops Q (o :: rest) a w :=
  wpList_appW hgd s x 22 22 ho B 5 (.int .u8 0) 1 1 Tryz.underlying22 Tryz.info5 rfl (by decide) v l.length (bvs l) hs hown (.slice A m.length c) m.length (bvs m) hx (srcOf Tryz.underlying22 (by decide) (by simp) hA (bvs_one m)) (by omega) (by unfold maxLen; omega) hB
    (fun v' w' h1 h2 h3 => h v' w' (by rw [WinB, List.length_append, bvs_append]; exact h1) h2 h3)
theorem one_byte {x : Int} {c : UInt8} (h : x = (c.toNat : Int)) : ∀ j v, (bvs [c])[j]? = some v → #[Value.int .u8 x][0 + j]? = some v := by
  subst h; intro j v hj; simpa [bvs, bv] using hj
theorem bits_or_nat (k : IntKind) (j : Nat) (hj : j ≤ k.bits) (hk : ∀ n : Int, 0 ≤ n → n < 2 ^ j → k.wrap n = n) {a b : Nat} (ha : a < 2 ^ j) (hb : b < 2 ^ j) :
    bits .or k (a : Int) (b : Int) = ((a ||| b : Nat) : Int) := (bits_nat k j hj hk a b ha hb).2
theorem bits_and_i64 {a : Nat} (i : Nat) (hi : i ≤ 62) (ha : a < 9223372036854775808) : bits .and .i64 (a : Int) ((2 ^ i - 1 : Nat) : Int) = ((a % 2 ^ i : Nat) : Int) := by
  have hp : 2 ^ i ≤ 2 ^ 62 := Nat.pow_le_pow_right (by decide) hi
  have h0 := Nat.two_pow_pos i
  have := (bits_nat .i64 63 (by decide) (fun n h0 h1 => IntWalk.i64_in n (by omega)) a (2 ^ i - 1) (by omega) (by omega)).1
  rw [this, Nat.and_two_pow_sub_one_eq_mod]
abbrev bstr (l : List UInt8) : ByteArray := ⟨l.toArray⟩
theorem bstr_inj {a b : List UInt8} (h : bstr a = bstr b) : a = b := by
  have := congrArg (fun x : ByteArray => x.data.toList) h
  simpa using this
theorem bstr_eq {a b : List UInt8} (h : a = b) : (bstr a == bstr b) = true := by
  subst h
  show (a.toArray == a.toArray) = true
  simp
theorem bstr_ne {a b : List UInt8} (h : a ≠ b) : (bstr a == bstr b) = false := by
  show (a.toArray == b.toArray) = false
  simp [h]
theorem push_all : ∀ (l : List UInt8) (s : ByteArray), (l.map fun c => (c.toNat : Int)).foldl (fun r n => r.push (UInt8.ofNat n.toNat)) s = ⟨s.data ++ l.toArray⟩
  | [], s => by simp
  | c :: l, s => by
    rw [List.map_cons, List.foldl_cons, push_all l]
    simp [ByteArray.push]
theorem conv34 {w : World} {A : Option Addr} {l : List UInt8} {c n : Nat} (h : Bs w A l) (hn : n = l.length) : (convert 22 9 (.slice A n c)).run Tryz.prog w = .ok (.string (bstr l)) w := by
  subst hn
  cases A with
  | none =>
    have hl : l = [] := by
      cases l with
      | nil => rfl
      | cons u l => obtain ⟨ad, e, _⟩ := h 0 _ rfl; cases e
    subst hl
    exact run_convert_bytes_nil w 22 5 Tryz.underlying22 Tryz.underlying5 _ _ 9 Tryz.underlying9
  | some ad =>
    have hld : (loadCells ad l.length).run Tryz.prog w = .ok ((l.map fun c => (c.toNat : Int)).map (Value.int .u8)).toArray w := by
      have := run_loadCells_list (P := Tryz.prog) w ad (bvs l) (fun j v hj => by obtain ⟨ad', e, hc⟩ := h j v hj; injection e with e; subst e; exact hc)
      rw [show ((l.map fun c => (c.toNat : Int)).map (Value.int .u8)) = bvs l from by simp only [bvs, List.map_map]; rfl]
      simpa using this
    rw [run_convert_bytes_string w 22 9 5 _ _ _ Tryz.underlying22 Tryz.underlying5 Tryz.underlying9, run_bytesToString w _ _ _ _ hld, push_all]
    simp [ByteArray.empty, ByteArray.emptyWithCapacity]
    rfl
theorem step_appW34 {ops : Array Oper} {o : Oper} {a : Act} {w : World} {K : Act → World → Prop} {Q : Exit → Act → World → Prop} {E : Prop} (hg : o.guard = none) (s x : Operand)
    (ho : o.op = .call { callee := .builtin .append, args := #[s, x], argTypes := #[22, 22] })
    (B : Nat) (v : Value) (l : List UInt8) (hs : a.eval s = v) (hown : WinB w B 5 v l) (A : Option Addr) (c : Nat) (m : List UInt8) (hx : a.eval x = .slice A m.length c) (hA : Bs w A m)
    (hb : l.length + m.length ≤ 140737488351232) (hB : B ≤ w.heap.size)
    (hK : ∀ v' w', WinB w' B 5 v' (l ++ m) → Kp (fun k => v.ownBlock = some k) w w' → (v'.ownBlock = v.ownBlock ∨ v'.ownBlock = some w.heap.size) → K (a.put o.dst v') w') :
    if Region.wanted o (yielded ops a.tmps) = true then Oper.wp Tryz.prog o a w K Q else E := by
  have hw : Region.wanted o (yielded ops a.tmps) = true := by simp [Region.wanted, hg]
  rw [if_pos hw]
  obtain ⟨v', w', hrun, h1, h2, h3⟩ := run_appW (P := Tryz.prog) B 22 22 o.type 5 (.int .u8 0) 1 1 Tryz.underlying22 Tryz.info5 rfl (by decide) v l.length (bvs l) hown (.slice A m.length c) m.length (bvs m) (srcOf Tryz.underlying22 (by decide) (by simp) hA (bvs_one m)) (by omega) (by unfold maxLen; omega) hB
  unfold Oper.wp
  simp [execOp, ho, resolve, invoke, builtin, hs, hx, hrun, Result.andThen]
  exact hK v' w' (by rw [WinB, List.length_append, bvs_append]; exact h1) h2 h3
end
section
open Go.RowKit
set_option linter.unusedVariables false
def digs : List UInt8 := [48, 49, 50, 51, 52, 53, 54, 55, 56, 57, 97, 98, 99, 100, 101, 102]
def hexd (n : Nat) : UInt8 := digs.getD n 0
def hexs (id : List UInt8) : List UInt8 := id.flatMap fun c => [hexd (c.toNat / 16), hexd (c.toNat % 16)]
/-- a sign's value; -1: none -/
def dig (c : UInt8) : Int := if 48 ≤ c.toNat ∧ c.toNat ≤ 57 then (c.toNat : Int) - 48 else if 97 ≤ c.toNat ∧ c.toNat ≤ 102 then (c.toNat : Int) - 87 else -1
theorem u8_all {P : UInt8 → Prop} (h : ∀ n < 256, P (UInt8.ofNat n)) (c : UInt8) : P c := by
  have := h c.toNat c.toNat_lt
  simpa using this
theorem indexByte_dig (c : UInt8) : Lib.indexByte digs c = dig c := by
  revert c
  refine u8_all ?_
  decide +kernel
theorem dig_lt (c : UInt8) : -1 ≤ dig c ∧ dig c ≤ 15 := by
  unfold dig
  split
  · omega
  · split <;> omega
theorem dig_hexd : ∀ n < 16, dig (hexd n) = n := by decide +kernel
/-- the name's bytes behind i signs -/
def pst (s : List UInt8) : Nat → List UInt8
  | 0 => List.replicate 20 0
  | i + 1 => (pst s i).set (i / 2) (UInt8.ofNat (((pst s i).getD (i / 2) 0).toNat % 16 * 16 + (dig (s.getD i 0)).toNat))
theorem pst_len (s : List UInt8) : ∀ i, (pst s i).length = 20
  | 0 => by simp [pst]
  | i + 1 => by rw [pst, List.length_set, pst_len s i]
def allHex (s : List UInt8) : Prop := ∀ c ∈ s, 0 ≤ dig c
instance (s : List UInt8) : Decidable (allHex s) := by unfold allHex; infer_instance
/-- what Parse answers -/
def parseI (s : List UInt8) : List UInt8 × Nat := if s.length = 40 ∧ allHex s then (pst s 40, 0) else (List.replicate 20 0, 2)
theorem parseI_len (s : List UInt8) : (parseI s).1.length = 20 := by
  have h := pst_len s 40
  unfold parseI
  generalize pst s 40 = t at h ⊢
  split
  · exact h
  · simp
theorem hexs_len (id : List UInt8) : (hexs id).length = 2 * id.length := by
  induction id with
  | nil => rfl
  | cons c l ih => simp only [hexs, List.flatMap_cons, List.length_append, List.length_cons, List.length_nil] at *; omega
theorem hexs_at (id : List UInt8) (j : Nat) (h : j < id.length) : (hexs id).getD (2 * j) 0 = hexd (id[j].toNat / 16) ∧ (hexs id).getD (2 * j + 1) 0 = hexd (id[j].toNat % 16) := by
  induction id generalizing j with
  | nil => simp at h
  | cons c l ih =>
    cases j with
    | zero => simp [hexs]
    | succ j =>
      have := ih j (by simpa using h)
      simp only [hexs, List.flatMap_cons, List.cons_append, List.nil_append] at *
      rw [show 2 * (j + 1) = 2 * j + 1 + 1 by omega, show 2 * j + 1 + 1 + 1 = (2 * j + 1) + 1 + 1 by omega]
      simpa using this
theorem allHex_hexs (id : List UInt8) : allHex (hexs id) := by
  intro c hc
  simp only [hexs, List.mem_flatMap] at hc
  obtain ⟨x, _, hx⟩ := hc
  have hl := x.toNat_lt
  simp at hx
  rcases hx with rfl | rfl
  · rw [dig_hexd _ (by omega)]; omega
  · rw [dig_hexd _ (by omega)]; omega
theorem pst_hexs (id : List UInt8) (h : id.length = 20) : ∀ j, j ≤ 20 → pst (hexs id) (2 * j) = id.take j ++ List.replicate (20 - j) 0
  | 0, _ => by simp [pst]
  | j + 1, hj => by
    have ih := pst_hexs id h j (by omega)
    obtain ⟨h1, h2⟩ := hexs_at id j (by omega)
    have hlj : (id.take j).length = j := by simp; omega
    have hl := (id[j]'(by omega)).toNat_lt
    have hr : List.replicate (20 - j) (0 : UInt8) = 0 :: List.replicate (20 - (j + 1)) 0 := by rw [show 20 - j = (20 - (j + 1)) + 1 by omega, List.replicate_succ]
    rw [show 2 * (j + 1) = 2 * j + 1 + 1 by omega, pst, pst, ih, h1, h2, dig_hexd _ (by omega), dig_hexd _ (by omega)]
    rw [show (2 * j + 1) / 2 = j by omega, show 2 * j / 2 = j by omega, hr]
    have hset : ∀ (x y : UInt8), (id.take j ++ x :: List.replicate (20 - (j + 1)) 0).set j y = id.take j ++ y :: List.replicate (20 - (j + 1)) 0 := fun x y => by
      rw [List.set_append_right _ _ (by omega), hlj, Nat.sub_self]; rfl
    have hget : ∀ (x : UInt8), (id.take j ++ x :: List.replicate (20 - (j + 1)) 0).getD j 0 = x := fun x => by
      rw [List.getD_eq_getElem?_getD, List.getElem?_append_right (by omega), hlj, Nat.sub_self]; rfl
    rw [hget, hset, hget, hset, List.take_succ_eq_append_getElem (by omega), List.append_assoc]
    congr 2
    apply UInt8.toNat_inj.1
    simp
    omega
theorem parseI_hexs (id : List UInt8) (h : id.length = 20) : parseI (hexs id) = (id, 0) := by
  unfold parseI
  rw [if_pos ⟨by rw [hexs_len, h], allHex_hexs id⟩]
  have := pst_hexs id h 20 (by omega)
  rw [show 2 * 20 = 40 from rfl] at this
  rw [this, List.take_of_length_le (by omega)]
  simp
end
section
open Go.RowKit
set_option maxRecDepth 100000
set_option maxHeartbeats 4000000
set_option linter.unusedVariables false
theorem indexByteL_any (s : ByteArray) (c : Int) (w : World) :
    Calls Tryz.prog 139 #[.string s, .int .u8 c] w fun e w' => e = .returned (.int .i64 (Lib.indexByte s.data.toList c.toNat.toUInt8)) ∧ w' = w := by
  go_enter Tryz.func139, Tryz.ntmps139
  go_wp2
  rw [run_callFunc_extern Tryz.func157 (by kernel_rfl) (by kernel_rfl) (by kernel_rfl) (e := Extern.BytealgIndexByte.indexByte) (by kernel_rfl), Lib.run_indexByteString]
  simp only [Result.andThen]
  rw [Oper.upon_value]
  go_wp2
  go_ret
  exact ⟨rfl, rfl⟩
theorem indexByte_any (s : ByteArray) (c : Int) (w : World) :
    Calls Tryz.prog 111 #[.string s, .int .u8 c] w fun e w' => e = .returned (.int .i64 (Lib.indexByte s.data.toList c.toNat.toUInt8)) ∧ w' = w := by
  go_enter Tryz.func111, Tryz.ntmps111
  go_wp2_with (go_at_call 139; refine (indexByteL_any _ _ _).mono ?_; rintro e w' ⟨rfl, rfl⟩)
  go_ret
  exact ⟨rfl, rfl⟩
theorem idx_dig (c : UInt8) (w : World) : Calls Tryz.prog 111 #[.string ⟨#[48, 49, 50, 51, 52, 53, 54, 55, 56, 57, 97, 98, 99, 100, 101, 102]⟩, .int .u8 (c.toNat : Int)] w fun e w' => e = .returned (.int .i64 (dig c)) ∧ w = w' := by
  refine (indexByte_any _ _ w).mono ?_
  rintro e w' ⟨rfl, rfl⟩
  have e1 : ((c.toNat : Int)).toNat.toUInt8 = c := by simp
  rw [e1]
  exact ⟨by rw [← indexByte_dig]; rfl, rfl⟩
theorem digit_any (c : UInt8) (w : World) : Calls Tryz.prog 112 #[.int .u8 (c.toNat : Int)] w fun e w' => e = .returned (.int .i64 (dig c)) ∧ w = w' := by
  have hl := c.toNat_lt
  by_cases h1 : 48 ≤ c.toNat ∧ c.toNat ≤ 57
  · have hd : dig c = (c.toNat : Int) - 48 := by unfold dig; rw [if_pos h1]
    obtain ⟨h2, h3⟩ := h1
    have HD := Lib.hid hd
    clear hd
    go_enter Tryz.func112, Tryz.ntmps112
    go_wp2
    go_ret
    exact ⟨by rw [HD.out]; rfl, rfl⟩
  · by_cases h2 : 97 ≤ c.toNat ∧ c.toNat ≤ 102
    · have hd : dig c = (c.toNat : Int) - 87 := by unfold dig; rw [if_neg h1, if_pos h2]
      obtain ⟨h3, h4⟩ := h2
      have h5 : ¬ c.toNat ≤ 57 := by omega
      have HD := Lib.hid hd
      clear hd h1
      go_enter Tryz.func112, Tryz.ntmps112
      go_wp2
      go_ret
      refine ⟨?_, rfl⟩
      rw [HD.out]
      show Ending.returned (Value.int .i64 _) = _
      congr 2
      omega
    · have hd : dig c = -1 := by unfold dig; rw [if_neg h1, if_neg h2]
      have HD := Lib.hid hd
      clear hd
      by_cases g1 : 48 ≤ c.toNat
      · have g2 : ¬ c.toNat ≤ 57 := by omega
        by_cases g3 : 97 ≤ c.toNat
        · have g4 : ¬ c.toNat ≤ 102 := by omega
          clear h1 h2
          go_enter Tryz.func112, Tryz.ntmps112
          go_wp2
          go_ret
          exact ⟨by rw [HD.out]; rfl, rfl⟩
        · clear h1 h2
          go_enter Tryz.func112, Tryz.ntmps112
          go_wp2
          go_ret
          exact ⟨by rw [HD.out]; rfl, rfl⟩
      · have g3 : ¬ 97 ≤ c.toNat := by omega
        clear h1 h2
        go_enter Tryz.func112, Tryz.ntmps112
        go_wp2
        go_ret
        exact ⟨by rw [HD.out]; rfl, rfl⟩
theorem str_at (s : ByteArray) (k : Nat) (h : k < s.size) : s.data.toList.take (k + 1) = s.data.toList.take k ++ [s[k]] ∧ s[k] ∈ s.data.toList := by
  have hl : k < s.data.toList.length := by simpa using h
  refine ⟨?_, ?_⟩
  · rw [List.take_succ_eq_append_getElem hl]; rfl
  · exact List.getElem_mem hl
theorem isHex_any (s : ByteArray) (w : World) (hs : s.size ≤ 1099511627776) : Calls Tryz.prog 137 #[.string s] w fun e w' => e = .returned (.bool (decide (allHex s.data.toList))) ∧ w = w' := by
  go_enter Tryz.func137, Tryz.ntmps137
  go_wp2
  go_loopw [6] (fun t6 wr => ∃ k : Nat, t6 = .int .i64 k ∧ k ≤ s.size ∧ (∀ c ∈ s.data.toList.take k, 0 ≤ dig c) ∧ wr = w) (fun t6 _ => s.size - (intOf t6).toNat)
  case atStart => exact ⟨0, rfl, by omega, by simp, rfl⟩
  case round =>
    obtain ⟨k, rfl, hk, hok, rfl⟩ := hrel
    have HOK := Lib.hid hok
    clear hok
    by_cases hlt : k < s.size
    · obtain ⟨h1, h2⟩ := str_at s k hlt
      have H1 := Lib.hid h1; have H2 := Lib.hid h2
      clear h1 h2
      have ki := idx_dig s[k] wr
      by_cases hd : dig s[k] < 0
      · have HF := Lib.hid (show decide (allHex s.data.toList) = false from decide_eq_false (fun h => by have := h _ H2.out; omega))
        have q1 : decide (dig s[k] < 0) = true := decide_eq_true hd
        have HD := Lib.hid hd
        clear hd
        go_wp2_with (go_at_call 111; (with_reducible refine ki.mono ?_); rintro e w1 ⟨rfl, rfl⟩)
        go_ret
        exact ⟨by rw [HF.out]; rfl, rfl⟩
      · have q1 : decide (dig s[k] < 0) = false := decide_eq_false hd
        have HD := Lib.hid hd
        clear hd
        go_wp2_with (go_at_call 111; (with_reducible refine ki.mono ?_); rintro e w1 ⟨rfl, rfl⟩)
        go_roundw
        case rel =>
          refine ⟨k + 1, by go_num, by omega, fun c hc => ?_, by first | rfl | trivial⟩
          rw [H1.out, List.mem_append] at hc
          rcases hc with hc | hc
          · exact HOK.out c hc
          · simp at hc; subst hc; have := HD.out; omega
        case measure => simp [intOf]; omega
    · obtain rfl : k = s.size := by omega
      have hf : decide (allHex s.data.toList) = true := by
        refine decide_eq_true (fun c hc => HOK.out c ?_)
        rwa [List.take_of_length_le (by simp)]
      have HF := Lib.hid hf
      clear hf
      go_wp2
      go_ret
      exact ⟨by rw [HF.out]; rfl, rfl⟩
end
section
open Go.RowKit
set_option maxRecDepth 100000
set_option maxHeartbeats 4000000
set_option linter.unusedVariables false
abbrev idv (l : List UInt8) : Value := .agg (bvs l).toArray
theorem grown_below {w w' : World} (h : w.grownBy w' none) : Below w.heap.size w w' := ⟨h.os, h.tape, h.output, h.size, fun i hi => h.block i hi (by simp)⟩
theorem dig_at (x : Nat) (hx : x < 16) (w : World) : (Instr.index 9 (.string ⟨#[48, 49, 50, 51, 52, 53, 54, 55, 56, 57, 97, 98, 99, 100, 101, 102]⟩) (.int .u8 (x : Int))).run Tryz.prog w = .ok (.int .u8 ((hexd x).toNat : Int)) w := by
  have e : (⟨#[48, 49, 50, 51, 52, 53, 54, 55, 56, 57, 97, 98, 99, 100, 101, 102]⟩ : ByteArray)[x]? = some (hexd x) := by
    have : ∀ n < 16, (⟨#[48, 49, 50, 51, 52, 53, 54, 55, 56, 57, 97, 98, 99, 100, 101, 102]⟩ : ByteArray)[n]? = some (hexd n) := by decide +kernel
    exact this x hx
  simp [Instr.index, asIntOf, run_underlying Tryz.underlying9, e]
theorem nib_lo (c : UInt8) : bits .and .u8 (c.toNat : Int) 15 = ((c.toNat % 16 : Nat) : Int) := by
  have hl := c.toNat_lt
  have := (bits_nat .u8 8 (by decide) (fun n h0 h1 => IntWalk.u8_in n (by omega)) c.toNat (2 ^ 4 - 1) (by omega) (by decide)).1
  rw [Nat.and_two_pow_sub_one_eq_mod] at this
  exact this
theorem hexs_snoc (id : List UInt8) (k : Nat) (h : k < id.length) : hexs (id.take (k + 1)) = hexs (id.take k) ++ [hexd (id[k].toNat / 16), hexd (id[k].toNat % 16)] := by
  rw [List.take_succ_eq_append_getElem h]
  unfold hexs
  rw [List.flatMap_append]
  simp
theorem two_bytes {x y : Int} {a b : UInt8} (h : x = (a.toNat : Int)) (h2 : y = (b.toNat : Int)) : ∀ j v, (bvs [a, b])[j]? = some v → #[Value.int .u8 x, Value.int .u8 y][0 + j]? = some v := by
  subst h h2; intro j v hj
  simpa [bvs, bv] using hj
theorem arr_at (T : Nat) (hT : Tryz.prog.underlying T = some (.array 20 5)) (l : List UInt8) (hl : l.length = 20) (k : Nat) (hk : k < l.length) (w : World) : (Instr.index T (idv l) (.int .i64 (k : Int))).run Tryz.prog w = .ok (.int .u8 (l[k].toNat : Int)) w := by
  have hs : (sizeOf 5).run Tryz.prog w = .ok 1 w := by kernel_rfl
  have hp : (part 5 (bvs l).toArray k).run Tryz.prog w = .ok (.int .u8 (l[k].toNat : Int)) w := run_part_plain w (by kernel_rfl) (by simp [bvs, bv, hk])
  have h2 : (k : Int) < 20 := by omega
  have h3 : k < 20 := by omega
  simp [Instr.index, asIntOf, run_underlying hT, hs, hp, h3, Result.andThen]
theorem hex_any (id : List UInt8) (w : World) (hl : id.length = 20) : Calls Tryz.prog 64 #[idv id] w fun e w' => e = .returned (.string (bstr (hexs id))) ∧ Below w.heap.size w w' := by
  obtain ⟨i5, hi, hz0, hz1, hz2⟩ := info_parts Tryz.info5
  have ha := fun k hk => arr_at 27 Tryz.underlying27 id hl k hk
  have h23 : (Tryz.prog.info? 27).map (·.size) = some (bvs id).length := by rw [bvs_length, hl]; kernel_rfl
  have H23 := Lib.hid h23
  clear h23
  go_enter Tryz.func64, Tryz.ntmps64
  go_wp2_with (first
    | (at_make
       refine wpList_make_own _ rfl _ _ 22 rfl w.heap.size 5 i5 (.int .u8 0) 1 Tryz.underlying22 hi hz0 hz1 .i64 .i64 40 40 rfl rfl rfl (by rw [hz2]; decide) (by decide) (by simp) ?_
       intro w1 hown1 hgr1
       have hcl : Sl w1 (some ⟨w.heap.size, 0, none⟩) (bvs id) := Sl.below (Sl.of_block (heap_alloc_new _ _) (fun j v hj => by simpa using hj)) (grown_below hgr1))
    | (refine wpList_load_agg rfl 27 (.tmp 1) rfl ⟨w.heap.size, 0, none⟩ rfl (bvs id) _ hcl Tryz.underlying27 rfl H23.out ?_))
  have hb1 : Below w.heap.size w w1 := ((Below.refl w.heap.size w).alloc (Nat.le_refl _) _).trans ((grown_below hgr1).mono (by simp))
  have hw1 : WinB w1 w.heap.size 5 (.slice (some ⟨w.heap.size + 1, 0, none⟩) 0 40) [] := by
    have := Win.ofOwns hown1
    rw [show (w.alloc (.cells (bvs id).toArray 27)).heap.size = w.heap.size + 1 by simp] at this
    exact this
  clear hown1 hgr1 hcl
  go_loopw [3, 8] (fun t3 t8 wr => ∃ k : Nat, t8 = .int .i64 k ∧ k ≤ 20 ∧ WinB wr w.heap.size 5 t3 (hexs (id.take k)) ∧ Below w.heap.size w wr) (fun _ t8 _ => 20 - (intOf t8).toNat)
  case atStart => exact ⟨0, rfl, by omega, by simpa [hexs] using hw1, hb1⟩
  case round =>
    clear hw1 hb1
    obtain ⟨k, rfl, hk, hwv, hb⟩ := hrel
    have hhl := hexs_len (id.take k)
    have htl : (id.take k).length = k := by simp; omega
    rw [htl] at hhl
    obtain ⟨A3, c3, rfl, hc3, _, hr3⟩ := WinB.readsN (n := 2 * k) hwv hhl
    have HR3 := Lib.hid hr3
    have HWV := Lib.hid hwv
    clear hwv htl hr3
    by_cases hlt : k < 20
    · have hh := hexs_snoc id k (by omega)
      have hai := ha k (by omega)
      obtain ⟨x, hx⟩ : ∃ x, x = id[k]'(by omega) := ⟨_, rfl⟩
      rw [← hx] at hh hai
      have hxl := x.toNat_lt
      obtain ⟨p1, hp1⟩ : ∃ p1, p1 = hexd (x.toNat / 16) := ⟨_, rfl⟩
      obtain ⟨p2, hp2⟩ : ∃ p2, p2 = hexd (x.toNat % 16) := ⟨_, rfl⟩
      have d1 : ∀ W, (Instr.index 9 (.string ⟨#[48, 49, 50, 51, 52, 53, 54, 55, 56, 57, 97, 98, 99, 100, 101, 102]⟩) (.int .u8 ((x.toNat : Int) / 16))).run Tryz.prog W = .ok (.int .u8 (p1.toNat : Int)) W := fun W => by
        rw [hp1]; exact dig_at (x.toNat / 16) (by omega) W
      have d2 : ∀ W, (Instr.index 9 (.string ⟨#[48, 49, 50, 51, 52, 53, 54, 55, 56, 57, 97, 98, 99, 100, 101, 102]⟩) (.int .u8 ((x.toNat : Int) % 16))).run Tryz.prog W = .ok (.int .u8 (p2.toNat : Int)) W := fun W => by
        rw [hp2]; exact dig_at (x.toNat % 16) (by omega) W
      have e2 : bits .and .u8 (x.toNat : Int) 15 = (x.toNat : Int) % 16 := nib_lo x
      rw [← hp1, ← hp2] at hh
      have HH := Lib.hid hh; have HHL := Lib.hid hhl
      clear hh hx hhl ha hp1 hp2
      have hbA : Below wr.heap.size wr ((wr.alloc (.cells #[.int .u8 (p1.toNat : Int), .int .u8 (p2.toNat : Int)] 5)).drew) := ((Below.refl _ _).alloc (Nat.le_refl _) _).drew
      have hwa := Lib.hid (Win.below HWV.out hbA)
      have hal := Lib.hid (heap_alloc_new wr.drew (.cells #[.int .u8 (p1.toNat : Int), .int .u8 (p2.toNat : Int)] 5))
      have hsz := hb.size
      have hBa := Nat.le_trans hsz hbA.size
      go_wp2
      go_region_law (first
        | (refine step_appW34 rfl (.tmp 11) (.tmp 18) rfl w.heap.size _ (hexs (id.take k)) rfl hwa.out (some ⟨wr.heap.size, 0, none⟩) 2 [p1, p2] rfl (Sl.of_block hal.out (two_bytes rfl rfl)) (by have := HHL.out; simp; omega) hBa ?_
           intro v6 w6 hw6 hk6 _))
      all_goals (
        go_wp2
        go_roundw
        case rel => exact ⟨k + 1, by go_num, by omega, by rw [HH.out]; exact hw6, (hb.trans (hbA.mono hsz)).trans (hk6.toBelow hBa (fun g hg e => absurd (Win.block HWV.out g e).1 (by omega)))⟩
        case measure => simp [intOf]; omega)
    · obtain rfl : k = 20 := by omega
      have hfin := HR3.out
      rw [List.take_of_length_le (by omega)] at hfin
      have hcv : (convert 22 9 (.slice A3 (2 * 20) c3)).run Tryz.prog wr = .ok (.string (bstr (hexs id))) wr := conv34 hfin (by rw [hexs_len, hl])
      clear hfin hhl
      go_wp2
      go_ret
      exact ⟨rfl, hb⟩
end
section
open Go.RowKit
set_option maxRecDepth 100000
set_option maxHeartbeats 4000000
set_option linter.unusedVariables false
theorem hexRef_any (id : List UInt8) (w : World) (hl : id.length = 20) : Calls Tryz.prog 69 #[idv id] w fun e w' => e = .returned (.string (bstr (hexs id))) ∧ Below w.heap.size w w' := by
  have hcl : Sl (w.alloc (.cells (bvs id).toArray 26)) (some ⟨w.heap.size, 0, none⟩) (bvs id) := Sl.of_block (heap_alloc_new _ _) (fun j v hj => by simpa using hj)
  have hb1 : Below w.heap.size w (w.alloc (.cells (bvs id).toArray 26)) := (Below.refl w.heap.size w).alloc (Nat.le_refl _) _
  have HCL := Lib.hid hcl
  clear hcl
  go_enter Tryz.func69, Tryz.ntmps69
  go_wp2
  go_loopw [4, 5] (fun t3 t8 wr => ∃ k : Nat, t8 = .int .i64 k ∧ k ≤ 20 ∧ WinB wr (w.alloc (.cells (bvs id).toArray 26)).heap.size 5 t3 (hexs (id.take k)) ∧ Below (w.alloc (.cells (bvs id).toArray 26)).heap.size (w.alloc (.cells (bvs id).toArray 26)) wr) (fun _ t8 _ => 20 - (intOf t8).toNat)
  case atStart => exact ⟨0, rfl, by omega, (show WinB _ _ 5 (.slice none 0 0) [] from Win.nil _ _ _ _), Below.refl _ _⟩
  case round =>
    obtain ⟨k, rfl, hk, hwv, hb0⟩ := hrel
    have hcr := Lib.hid (Sl.below HCL.out hb0)
    have hb : Below w.heap.size w wr := hb1.trans (hb0.mono (by simp))
    have hhl := hexs_len (id.take k)
    have htl : (id.take k).length = k := by simp; omega
    rw [htl] at hhl
    obtain ⟨A3, c3, rfl, hc3, _, hr3⟩ := WinB.readsN (n := 2 * k) hwv hhl
    have HR3 := Lib.hid hr3
    have HWV := Lib.hid hwv
    clear hwv htl hr3
    by_cases hlt : k < 20
    · have hh := hexs_snoc id k (by omega)
      obtain ⟨ad, e, hai⟩ := Bs.at hcr.out (j := k) (by omega)
      injection e with e
      subst e
      obtain ⟨x, hx⟩ : ∃ x, x = id[k]'(by omega) := ⟨_, rfl⟩
      rw [← hx] at hh hai
      rw [add_plain] at hai
      simp only [Nat.zero_add] at hai
      have hxl := x.toNat_lt
      obtain ⟨p1, hp1⟩ : ∃ p1, p1 = hexd (x.toNat / 16) := ⟨_, rfl⟩
      obtain ⟨p2, hp2⟩ : ∃ p2, p2 = hexd (x.toNat % 16) := ⟨_, rfl⟩
      have d1 : ∀ W, (Instr.index 9 (.string ⟨#[48, 49, 50, 51, 52, 53, 54, 55, 56, 57, 97, 98, 99, 100, 101, 102]⟩) (.int .u8 ((x.toNat : Int) / 16))).run Tryz.prog W = .ok (.int .u8 (p1.toNat : Int)) W := fun W => by
        rw [hp1]; exact dig_at (x.toNat / 16) (by omega) W
      have d2 : ∀ W, (Instr.index 9 (.string ⟨#[48, 49, 50, 51, 52, 53, 54, 55, 56, 57, 97, 98, 99, 100, 101, 102]⟩) (.int .u8 ((x.toNat : Int) % 16))).run Tryz.prog W = .ok (.int .u8 (p2.toNat : Int)) W := fun W => by
        rw [hp2]; exact dig_at (x.toNat % 16) (by omega) W
      have e2 : bits .and .u8 (x.toNat : Int) 15 = (x.toNat : Int) % 16 := nib_lo x
      rw [← hp1, ← hp2] at hh
      have HH := Lib.hid hh; have HHL := Lib.hid hhl
      clear hh hx hhl hp1 hp2
      have had : wr.drew.cell? ⟨w.heap.size, k, none⟩ = some (.int .u8 (x.toNat : Int)) := hai
      have hbA : Below wr.heap.size wr ((wr.alloc (.cells #[.int .u8 (p1.toNat : Int), .int .u8 (p2.toNat : Int)] 5)).drew) := ((Below.refl _ _).alloc (Nat.le_refl _) _).drew
      have hwa := Lib.hid (Win.below HWV.out hbA)
      have hal := Lib.hid (heap_alloc_new wr.drew (.cells #[.int .u8 (p1.toNat : Int), .int .u8 (p2.toNat : Int)] 5))
      have hsz := hb0.size
      have hBa := Nat.le_trans hsz hbA.size
      go_wp2
      go_region_law (first
        | (refine step_appW34 rfl (.tmp 10) (.tmp 23) rfl (w.alloc (.cells (bvs id).toArray 26)).heap.size _ (hexs (id.take k)) rfl hwa.out (some ⟨wr.heap.size, 0, none⟩) 2 [p1, p2] rfl (Sl.of_block hal.out (two_bytes rfl rfl)) (by have := HHL.out; simp; omega) hBa ?_
           intro v6 w6 hw6 hk6 _))
      all_goals (
        go_wp2
        go_roundw
        case rel => exact ⟨k + 1, by go_num, by omega, by rw [HH.out]; exact hw6, (hb0.trans (hbA.mono hsz)).trans (hk6.toBelow hBa (fun g hg e => absurd (Win.block HWV.out g e).1 (by omega)))⟩
        case measure => simp [intOf]; omega)
    · obtain rfl : k = 20 := by omega
      have hfin := HR3.out
      rw [List.take_of_length_le (by omega)] at hfin
      have hcv : (convert 22 9 (.slice A3 (2 * 20) c3)).run Tryz.prog wr = .ok (.string (bstr (hexs id))) wr := conv34 hfin (by rw [hexs_len, hl])
      clear hfin hhl
      go_wp2
      go_ret
      exact ⟨rfl, hb⟩
end
section
open Go.RowKit
set_option maxRecDepth 100000
set_option maxHeartbeats 4000000
set_option linter.unusedVariables false
def zs20 : List UInt8 := List.replicate 20 0
theorem zlit : (#[.int .u8 0, .int .u8 0, .int .u8 0, .int .u8 0, .int .u8 0, .int .u8 0, .int .u8 0, .int .u8 0, .int .u8 0, .int .u8 0, .int .u8 0, .int .u8 0, .int .u8 0, .int .u8 0, .int .u8 0, .int .u8 0, .int .u8 0, .int .u8 0, .int .u8 0, .int .u8 0] : Array Value) = (bvs zs20).toArray := rfl
theorem zs20_len : zs20.length = 20 := by simp [zs20]
theorem one_bvs (l : List UInt8) : (bvs l).toArray.all (·.oneCell') = true := by
  rw [Array.all_eq_true]
  intro i h
  simp [bvs, bv, Value.oneCell']
theorem info23 (l : List UInt8) (h : l.length = 20) : (Tryz.prog.info? 27).map (·.size) = some (bvs l).toArray.size := by
  rw [show (bvs l).toArray.size = 20 by simp [h]]; kernel_rfl
theorem info22 (l : List UInt8) (h : l.length = 20) : (Tryz.prog.info? 26).map (·.size) = some (bvs l).toArray.size := by
  rw [show (bvs l).toArray.size = 20 by simp [h]]; kernel_rfl
theorem two_new (w : World) (T : Nat) (c : Array Value) : ((w.alloc (.cells c T)).alloc (.cells c T)).heap[w.heap.size]? = some (.cells c T (0, 0)) ∧ ((w.alloc (.cells c T)).alloc (.cells c T)).heap[w.heap.size + 1]? = some (.cells c T (0, 0)) ∧
    Below w.heap.size w ((w.alloc (.cells c T)).alloc (.cells c T)) := by
  have b2 : Below (w.alloc (.cells c T)).heap.size (w.alloc (.cells c T)) ((w.alloc (.cells c T)).alloc (.cells c T)) := (Below.refl _ _).alloc (Nat.le_refl _) _
  refine ⟨(b2.block _ (by simp)).trans (heap_alloc_new _ _), ?_, ((Below.refl _ _).alloc (Nat.le_refl _) _).alloc (by simp) _⟩
  have := heap_alloc_new (w.alloc (.cells c T)) (.cells c T)
  rwa [show (w.alloc (.cells c T)).heap.size = w.heap.size + 1 by simp] at this
theorem u8_wrap (z : Int) : IntKind.u8.wrap z = z % 256 := by rw [IntKind.wrap_u8]
theorem idx_dig' (c : UInt8) (w : World) : Calls Tryz.prog 111 #[.string ⟨#[48, 49, 50, 51, 52, 53, 54, 55, 56, 57, 97, 98, 99, 100, 101, 102]⟩, .int .u8 (c.toNat : Int)] w fun e w' => e = .returned (.int .i64 (dig c)) ∧ w' = w := (idx_dig c w).mono fun _ _ ⟨h1, h2⟩ => ⟨h1, h2.symm⟩
theorem parse_any (s : ByteArray) (w : World) (hs : s.size ≤ 1099511627776) :
    Calls Tryz.prog 109 #[.string s] w fun e w' => e = .returned (.tuple #[idv (parseI s.data.toList).1, .int .i64 ((parseI s.data.toList).2 : Nat)]) ∧ Below w.heap.size w w' := by
  have hsl : s.data.toList.length = s.size := by simp
  have bad : ∀ (q : Bool), parseI s.data.toList = (zs20, 2) → (q = true → ((s.size : Int) != 40) = true) → (q = false → ((s.size : Int) != 40) = false ∧ decide (allHex s.data.toList) = false) →
      Calls Tryz.prog 109 #[.string s] w fun e w' => e = .returned (.tuple #[idv (parseI s.data.toList).1, .int .i64 ((parseI s.data.toList).2 : Nat)]) ∧ Below w.heap.size w w' := by
    intro q hp h1 h2
    have HP := Lib.hid hp
    clear hp hsl
    have zi := Lib.hid (info23 zs20 zs20_len)
    go_enter Tryz.func109, Tryz.ntmps109
    go_upto_region 2 with fail
    simp only [zlit]
    obtain ⟨r1, r2, hb⟩ := two_new w 27 (bvs zs20).toArray
    obtain ⟨W, hW⟩ : ∃ W, W = (w.alloc (.cells (bvs zs20).toArray 27)).alloc (.cells (bvs zs20).toArray 27) := ⟨_, rfl⟩
    rw [← hW] at r1 r2 hb ⊢
    clear hW
    have R1 := Lib.hid r1; have R2 := Lib.hid r2
    clear r1 r2
    have ki := isHex_any s W hs
    have KI := Lib.hid ki
    clear ki
    cases q with
    | true =>
      have q1 := h1 rfl
      clear h1 h2
      go_wp2_with (first
        | (refine wpList_load_row rfl 27 (.tmp 4) rfl (w.heap.size + 1) rfl 27 (bvs zs20).toArray (0, 0) _ R2.out Tryz.underlying27 rfl zi.out ?_)
        | (refine wpList_store_row rfl 27 (.tmp 2) (.tmp 14) rfl w.heap.size (bvs zs20).toArray rfl rfl 27 _ R1.out zi.out rfl (one_bvs _) ?_))
      refine bodyPost_ret (results_cell_tmp1 rfl _ _ w.heap.size 27 (bvs zs20).toArray (0, 0) _ rfl (setRow_heap _ _ _ _ _ _ R1.out) Tryz.underlying27 rfl zi.out) rfl ?_
      exact ⟨by rw [HP.out]; rfl, below_setRow hb _ (Nat.le_refl _) _⟩
    | false =>
      obtain ⟨q1, q2⟩ := h2 rfl
      clear h1 h2
      rw [q2] at KI
      go_wp2_with (first
        | (go_at_call 137; (with_reducible refine KI.out.mono ?_); rintro e w1 ⟨rfl, rfl⟩)
        | (refine wpList_load_row rfl 27 (.tmp 4) rfl (w.heap.size + 1) rfl 27 (bvs zs20).toArray (0, 0) _ R2.out Tryz.underlying27 rfl zi.out ?_)
        | (refine wpList_store_row rfl 27 (.tmp 2) (.tmp 14) rfl w.heap.size (bvs zs20).toArray rfl rfl 27 _ R1.out zi.out rfl (one_bvs _) ?_))
      refine bodyPost_ret (results_cell_tmp1 rfl _ _ w.heap.size 27 (bvs zs20).toArray (0, 0) _ rfl (setRow_heap _ _ _ _ _ _ R1.out) Tryz.underlying27 rfl zi.out) rfl ?_
      exact ⟨by rw [HP.out]; rfl, below_setRow hb _ (Nat.le_refl _) _⟩
  by_cases h40 : s.size = 40
  · by_cases hh : allHex s.data.toList
    · have q1 : ((s.size : Int) != 40) = false := by simp [h40]
      have q2 : decide (allHex s.data.toList) = true := decide_eq_true hh
      have hp : parseI s.data.toList = (pst s.data.toList 40, 0) := by unfold parseI; rw [if_pos ⟨by omega, hh⟩]
      have HP := Lib.hid hp
      have HH := Lib.hid hh
      clear hp hsl bad hh
      have zi := Lib.hid (info23 zs20 zs20_len)
      go_enter Tryz.func109, Tryz.ntmps109
      go_upto_region 2 with fail
      simp only [zlit]
      obtain ⟨r1, r2, hb⟩ := two_new w 27 (bvs zs20).toArray
      obtain ⟨W, hW⟩ : ∃ W, W = (w.alloc (.cells (bvs zs20).toArray 27)).alloc (.cells (bvs zs20).toArray 27) := ⟨_, rfl⟩
      rw [← hW] at r1 r2 hb ⊢
      clear hW
      have R1 := Lib.hid r1; have R2 := Lib.hid r2
      clear r1 r2
      have ki := isHex_any s W hs
      rw [q2] at ki
      have KI := Lib.hid ki
      have H40 := Lib.hid h40
      clear ki q2
      go_wp2_with (go_at_call 137; (with_reducible refine KI.out.mono ?_); rintro e w1 ⟨rfl, rfl⟩)
      have hsz := h40
      clear h40
      go_loopw [17] (fun t17 wr => ∃ k : Nat, t17 = .int .i64 k ∧ k ≤ 40 ∧ wr.heap[w.heap.size]? = some (.cells (bvs zs20).toArray 27 (0, 0)) ∧ wr.heap[w.heap.size + 1]? = some (.cells (bvs (pst s.data.toList k)).toArray 27 (0, 0)) ∧ Below w.heap.size w wr) (fun t17 _ => 40 - (intOf t17).toNat)
      case atStart => exact ⟨0, rfl, by omega, R1.out, R2.out, hb⟩
      case round =>
        clear R1 R2 hb
        obtain ⟨k, rfl, hk, r1, r2, hb⟩ := hrel
        have R1 := Lib.hid r1; have R2 := Lib.hid r2; have HB := Lib.hid hb
        clear r1 hb
        by_cases hlt : k < 40
        · obtain ⟨j, hj⟩ : ∃ j, j = k / 2 := ⟨_, rfl⟩
          have hkj : (k : Int) / 2 = (j : Int) := by omega
          have hj20 : j < 20 := by omega
          have hji : (j : Int) < 20 := by omega
          have hjz : (0 : Int) ≤ (j : Int) := by omega
          have hwj : IntKind.i64.wrap (j : Int) = (j : Int) := IntWalk.i64_in _ (by omega)
          have hpl := pst_len s.data.toList k
          obtain ⟨x, hx⟩ : ∃ x, x = (pst s.data.toList k).getD j 0 := ⟨_, rfl⟩
          have hcell : wr.cell? ⟨w.heap.size + 1, j, none⟩ = some (.int .u8 (x.toNat : Int)) := by
            rw [cell_of_row _ _ _ _ _ _ r2, hx]
            simp [bvs, bv, hpl, hj20]
          have HJ := Lib.hid hj; have HX := Lib.hid hx
          clear r2 hj hx hpl
          have hks : k < s.size := by rw [H40.out]; exact hlt
          obtain ⟨c, hc⟩ : ∃ c, c = s[k] := ⟨_, rfl⟩
          have hix : ∀ W, (Instr.index 9 (.string s) (.int .i64 (k : Int))).run Tryz.prog W = .ok (.int .u8 (c.toNat : Int)) W := fun W => by
            rw [hc, run_index_string (P := Tryz.prog) (w := W) (t := 9) (s := s) (k := .i64) (i := (k : Int)) (h := Tryz.underlying9), dif_pos (by omega)]; rfl
          have HC := Lib.hid hc
          clear hc
          have hdl := dig_lt c
          have hd0 : 0 ≤ dig c := by rw [HC.out]; exact HH.out _ (str_at s k hks).2
          have ki := idx_dig' c wr.drew
          have hxl := x.toNat_lt
          obtain ⟨d, hd⟩ : ∃ d : Nat, d = (dig c).toNat := ⟨_, rfl⟩
          obtain ⟨p, hp⟩ : ∃ p : Nat, p = x.toNat % 16 * 16 := ⟨_, rfl⟩
          obtain ⟨y, hy⟩ : ∃ y : UInt8, y = UInt8.ofNat (x.toNat % 16 * 16 + (dig c).toNat) := ⟨_, rfl⟩
          have hw1 : IntKind.u8.wrap (dig c) = (d : Int) := by rw [IntWalk.u8_in _ (by omega)]; omega
          have hw2 : IntKind.u8.wrap ((x.toNat : Int) * 16) = (p : Int) := by rw [u8_wrap]; omega
          have hor : bits .or .u8 (p : Int) (d : Int) = (y.toNat : Int) := by
            have h1 := bits_or_nat .u8 8 (by decide) (fun n h0 h1 => IntWalk.u8_in n (by omega)) (a := p) (b := d) (by omega) (by omega)
            have h2 : p ||| d = p + d := by
              have h := Nat.two_pow_add_eq_or_of_lt (i := 4) (b := d) (by omega) (x.toNat % 16)
              rw [show 2 ^ 4 * (x.toNat % 16) = p by omega] at h
              exact h.symm
            rw [h1, h2, hy]
            simp
            omega
          have HY := Lib.hid hy; have HD := Lib.hid hd; have HPP := Lib.hid hp
          have r2' := R2.out
          have hcd : wr.drew.cell? ⟨w.heap.size + 1, j, none⟩ = some (.int .u8 (x.toNat : Int)) := hcell
          have hfz : wr.drew.frozen? ⟨w.heap.size + 1, j, none⟩ = false := frozen_of_row _ _ _ _ _ r2'
          clear hd hp hy r2' hdl hd0
          go_wp2
          refine wp_region_still_tail 14 (by kernel_rfl) (by kernel_rfl) ?_
          simp only [List.take_succ_cons, List.take_zero, List.drop_succ_cons, List.drop_zero]
          repeat still_step
          still_call ki
          repeat still_step
          refine wpStill_nil ?_
          change wpList _ _ _ _ _ wr.drew
          go_wp2
          go_roundw
          case rel =>
            refine ⟨k + 1, by go_num, by omega, ?_, ?_, ?_⟩
            · exact (heap_setCell_ne wr _ _ _ (by simp)).trans R1.out
            · have := heap_setCell_same wr (w.heap.size + 1) j _ 27 (.int .u8 (y.toNat : Int)) R2.out
              refine this.trans ?_
              rw [pst, ← HJ.out, ← HX.out, show s.data.toList.getD k 0 = c by rw [HC.out, List.getD_eq_getElem?_getD, List.getElem?_eq_getElem (by simpa using hks)]; rfl, ← HY.out]
              congr 2
              apply Array.ext'
              simp [bvs, bv, List.map_set]
            · exact ⟨HB.out.os, HB.out.tape, HB.out.output, by simpa using HB.out.size, fun i hi => (heap_setCell_ne wr _ _ _ (by simp; omega)).trans (HB.out.block i hi)⟩
          case measure => simp [intOf]; omega
        · obtain rfl : k = 40 := by omega
          have r2' := R2.out
          have hp' := HP.out
          have hpl := pst_len s.data.toList 40
          clear R2 HP
          generalize pst s.data.toList 40 = t at r2' hp' hpl
          have zp := Lib.hid (info23 t hpl)
          have hzs : (bvs zs20).toArray.size = (bvs t).toArray.size := by simp [zs20_len, hpl]
          have HZ := Lib.hid hzs; have R2 := Lib.hid r2'; have HP := Lib.hid hp'
          clear r2 hzs r2' hp'
          go_wp2_with (first
            | (refine wpList_load_row rfl 27 (.tmp 4) rfl (w.heap.size + 1) rfl 27 (bvs t).toArray (0, 0) _ R2.out Tryz.underlying27 rfl zp.out ?_)
            | (refine wpList_store_row rfl 27 (.tmp 2) (.tmp 35) rfl w.heap.size (bvs t).toArray rfl rfl 27 _ R1.out zp.out HZ.out (one_bvs _) ?_))
          refine bodyPost_ret (results_cell_tmp1 rfl _ _ w.heap.size 27 (bvs t).toArray (0, 0) _ rfl (setRow_heap _ _ _ _ _ _ R1.out) Tryz.underlying27 rfl zp.out) rfl ?_
          exact ⟨by rw [HP.out]; rfl, below_setRow HB.out _ (Nat.le_refl _) _⟩
    · exact bad false (by unfold parseI; rw [if_neg (fun h => hh h.2)]; rfl) (by simp) (fun _ => ⟨by simp [h40], decide_eq_false hh⟩)
  · exact bad true (by unfold parseI; rw [if_neg (by omega)]; rfl) (fun _ => by simp; omega) (by simp)
end
section
open Go.RowKit
set_option maxRecDepth 100000
set_option maxHeartbeats 4000000
set_option linter.unusedVariables false
theorem digit_any' (c : UInt8) (w : World) : Calls Tryz.prog 112 #[.int .u8 (c.toNat : Int)] w fun e w' => e = .returned (.int .i64 (dig c)) ∧ w' = w := (digit_any c w).mono fun _ _ ⟨h1, h2⟩ => ⟨h1, h2.symm⟩
theorem parseRef_any (s : ByteArray) (w : World) (hs : s.size ≤ 1099511627776) :
    Calls Tryz.prog 84 #[.string s] w fun e w' => e = .returned (.tuple #[idv (parseI s.data.toList).1, .int .i64 ((parseI s.data.toList).2 : Nat)]) ∧ Below w.heap.size w w' := by
  have hsl : s.data.toList.length = s.size := by simp
  have zi := Lib.hid (info22 zs20 zs20_len)
  by_cases h40 : s.size = 40
  · have q1 : ((s.size : Int) != 40) = false := by simp [h40]
    have hgood : allHex s.data.toList → parseI s.data.toList = (pst s.data.toList 40, 0) := fun hh => by unfold parseI; rw [if_pos ⟨by omega, hh⟩]
    have hbad : ¬ allHex s.data.toList → parseI s.data.toList = (zs20, 2) := fun hh => by unfold parseI; rw [if_neg (fun h => hh h.2)]; rfl
    have GOOD := Lib.hid hgood; have BAD := Lib.hid hbad
    have H40 := Lib.hid h40
    clear hgood hbad hsl
    go_enter Tryz.func84, Tryz.ntmps84
    go_upto_region 2 with fail
    simp only [zlit]
    obtain ⟨r1, r2, hb⟩ := two_new w 26 (bvs zs20).toArray
    obtain ⟨W, hW⟩ : ∃ W, W = (w.alloc (.cells (bvs zs20).toArray 26)).alloc (.cells (bvs zs20).toArray 26) := ⟨_, rfl⟩
    rw [← hW] at r1 r2 hb ⊢
    clear hW
    have R1 := Lib.hid r1; have R2 := Lib.hid r2
    clear r1 r2
    go_wp2_with fail
    clear h40
    go_loopw [5] (fun t5 wr => ∃ k : Nat, t5 = .int .i64 k ∧ k ≤ 40 ∧ (∀ c ∈ s.data.toList.take k, 0 ≤ dig c) ∧ wr.heap[w.heap.size]? = some (.cells (bvs zs20).toArray 26 (0, 0)) ∧ wr.heap[w.heap.size + 1]? = some (.cells (bvs (pst s.data.toList k)).toArray 26 (0, 0)) ∧ Below w.heap.size w wr) (fun t5 _ => 40 - (intOf t5).toNat)
    case atStart => exact ⟨0, rfl, by omega, by simp, R1.out, R2.out, hb⟩
    case round =>
      clear R1 R2 hb
      obtain ⟨k, rfl, hk, hok, r1, r2, hb⟩ := hrel
      have R1 := Lib.hid r1; have R2 := Lib.hid r2; have HB := Lib.hid hb; have HOK := Lib.hid hok
      clear r1 hb hok
      by_cases hlt : k < 40
      · obtain ⟨j, hj⟩ : ∃ j, j = k / 2 := ⟨_, rfl⟩
        have hkj : (k : Int) / 2 = (j : Int) := by omega
        have hj20 : j < 20 := by omega
        have hji : (j : Int) < 20 := by omega
        have hjz : (0 : Int) ≤ (j : Int) := by omega
        have hwj : IntKind.i64.wrap (j : Int) = (j : Int) := IntWalk.i64_in _ (by omega)
        have hpl := pst_len s.data.toList k
        obtain ⟨x, hx⟩ : ∃ x, x = (pst s.data.toList k).getD j 0 := ⟨_, rfl⟩
        have hcell : wr.cell? ⟨w.heap.size + 1, j, none⟩ = some (.int .u8 (x.toNat : Int)) := by
          rw [cell_of_row _ _ _ _ _ _ r2, hx]
          simp [bvs, bv, hpl, hj20]
        have HJ := Lib.hid hj; have HX := Lib.hid hx
        clear r2 hj hx hpl
        have hks : k < s.size := by rw [H40.out]; exact hlt
        obtain ⟨c, hc⟩ : ∃ c, c = s[k] := ⟨_, rfl⟩
        have hix : ∀ W, (Instr.index 9 (.string s) (.int .i64 (k : Int))).run Tryz.prog W = .ok (.int .u8 (c.toNat : Int)) W := fun W => by
          rw [hc, run_index_string (P := Tryz.prog) (w := W) (t := 9) (s := s) (k := .i64) (i := (k : Int)) (h := Tryz.underlying9), dif_pos (by omega)]; rfl
        have hst := str_at s k hks
        rw [← hc] at hst
        have HC := Lib.hid hc; have HST := Lib.hid hst
        clear hc hst
        have k0 := digit_any c wr
        by_cases hd0 : 0 ≤ dig c
        · have q2 : decide (dig c < 0) = false := decide_eq_false (by omega)
          have hdl := dig_lt c
          have ki := digit_any' c wr.drew
          have hxl := x.toNat_lt
          obtain ⟨d, hd⟩ : ∃ d : Nat, d = (dig c).toNat := ⟨_, rfl⟩
          obtain ⟨p, hp⟩ : ∃ p : Nat, p = x.toNat % 16 * 16 := ⟨_, rfl⟩
          obtain ⟨y, hy⟩ : ∃ y : UInt8, y = UInt8.ofNat (x.toNat % 16 * 16 + (dig c).toNat) := ⟨_, rfl⟩
          have hw1 : IntKind.u8.wrap (dig c) = (d : Int) := by rw [IntWalk.u8_in _ (by omega)]; omega
          have hw2 : IntKind.u8.wrap ((x.toNat : Int) * 16) = (p : Int) := by rw [u8_wrap]; omega
          have hor : bits .or .u8 (p : Int) (d : Int) = (y.toNat : Int) := by
            have h1 := bits_or_nat .u8 8 (by decide) (fun n h0 h1 => IntWalk.u8_in n (by omega)) (a := p) (b := d) (by omega) (by omega)
            have h2 : p ||| d = p + d := by
              have h := Nat.two_pow_add_eq_or_of_lt (i := 4) (b := d) (by omega) (x.toNat % 16)
              rw [show 2 ^ 4 * (x.toNat % 16) = p by omega] at h
              exact h.symm
            rw [h1, h2, hy]
            simp
            omega
          have HY := Lib.hid hy; have HD := Lib.hid hd; have HPP := Lib.hid hp; have HD0 := Lib.hid hd0
          have r2' := R2.out
          have hcd : wr.drew.cell? ⟨w.heap.size + 1, j, none⟩ = some (.int .u8 (x.toNat : Int)) := hcell
          have hfz : wr.drew.frozen? ⟨w.heap.size + 1, j, none⟩ = false := frozen_of_row _ _ _ _ _ r2'
          clear hd hp hy r2' hdl hd0
          go_wp2_with (go_at_call 112; (with_reducible refine k0.mono ?_); rintro e w1 ⟨rfl, rfl⟩)
          refine wp_region_still_tail 14 (by kernel_rfl) (by kernel_rfl) ?_
          simp only [List.take_succ_cons, List.take_zero, List.drop_succ_cons, List.drop_zero]
          repeat still_step
          still_call ki
          repeat still_step
          refine wpStill_nil ?_
          change wpList _ _ _ _ _ wr.drew
          go_wp2
          go_roundw
          case rel =>
            refine ⟨k + 1, by go_num, by omega, ?_, ?_, ?_, ?_⟩
            · intro z hz
              rw [HST.out.1, List.mem_append] at hz
              rcases hz with hz | hz
              · exact HOK.out z hz
              · simp at hz; subst hz; exact HD0.out
            · exact (heap_setCell_ne wr _ _ _ (by simp)).trans R1.out
            · have := heap_setCell_same wr (w.heap.size + 1) j _ 26 (.int .u8 (y.toNat : Int)) R2.out
              refine this.trans ?_
              rw [pst, ← HJ.out, ← HX.out, show s.data.toList.getD k 0 = c by rw [HC.out, List.getD_eq_getElem?_getD, List.getElem?_eq_getElem (by simpa using hks)]; rfl, ← HY.out]
              congr 2
              apply Array.ext'
              simp [bvs, bv, List.map_set]
            · exact ⟨HB.out.os, HB.out.tape, HB.out.output, by simpa using HB.out.size, fun i hi => (heap_setCell_ne wr _ _ _ (by simp; omega)).trans (HB.out.block i hi)⟩
          case measure => simp [intOf]; omega
        · have q2 : decide (dig c < 0) = true := decide_eq_true (by omega)
          have HPB := Lib.hid (BAD.out (fun h => hd0 (h c HST.out.2)))
          clear hd0
          go_upto_region 8 with (go_at_call 112; (with_reducible refine k0.mono ?_); rintro e w1 ⟨rfl, rfl⟩)
          have hzl := zlit
          go_wp2_with (refine wpList_store_row rfl 26 (.tmp 2) (.tmp 19) rfl w.heap.size (bvs zs20).toArray rfl rfl 26 _ R1.out zi.out rfl (one_bvs _) ?_)
          refine bodyPost_ret (results_cell_tmp1 rfl _ _ w.heap.size 26 (bvs zs20).toArray (0, 0) _ rfl (setRow_heap _ _ _ _ _ _ R1.out) Tryz.underlying26 rfl zi.out) rfl ?_
          exact ⟨by rw [HPB.out]; rfl, below_setRow HB.out _ (Nat.le_refl _) _⟩
      · obtain rfl : k = 40 := by omega
        have hall : allHex s.data.toList := fun c hc => HOK.out c (by rwa [List.take_of_length_le (by have := H40.out; simp; omega)])
        have r2' := R2.out
        have hp' := GOOD.out hall
        have hpl := pst_len s.data.toList 40
        clear R2 GOOD BAD hall
        generalize pst s.data.toList 40 = t at r2' hp' hpl
        have zp := Lib.hid (info22 t hpl)
        have hzs : (bvs zs20).toArray.size = (bvs t).toArray.size := by simp [zs20_len, hpl]
        have HZ := Lib.hid hzs; have R2 := Lib.hid r2'; have HP := Lib.hid hp'
        clear r2 hzs r2' hp'
        go_wp2_with (first
          | (refine wpList_load_row rfl 26 (.tmp 4) rfl (w.heap.size + 1) rfl 26 (bvs t).toArray (0, 0) _ R2.out Tryz.underlying26 rfl zp.out ?_)
          | (refine wpList_store_row rfl 26 (.tmp 2) (.tmp 34) rfl w.heap.size (bvs t).toArray rfl rfl 26 _ R1.out zp.out HZ.out (one_bvs _) ?_))
        refine bodyPost_ret (results_cell_tmp1 rfl _ _ w.heap.size 26 (bvs t).toArray (0, 0) _ rfl (setRow_heap _ _ _ _ _ _ R1.out) Tryz.underlying26 rfl zp.out) rfl ?_
        exact ⟨by rw [HP.out]; rfl, below_setRow HB.out _ (Nat.le_refl _) _⟩
  · have hp : parseI s.data.toList = (zs20, 2) := by unfold parseI; rw [if_neg (by omega)]; rfl
    have q1 : ((s.size : Int) != 40) = true := by simp; omega
    have HP := Lib.hid hp
    clear hp hsl
    go_enter Tryz.func84, Tryz.ntmps84
    go_upto_region 2 with fail
    simp only [zlit]
    obtain ⟨r1, r2, hb⟩ := two_new w 26 (bvs zs20).toArray
    obtain ⟨W, hW⟩ : ∃ W, W = (w.alloc (.cells (bvs zs20).toArray 26)).alloc (.cells (bvs zs20).toArray 26) := ⟨_, rfl⟩
    rw [← hW] at r1 r2 hb ⊢
    clear hW
    have R1 := Lib.hid r1; have R2 := Lib.hid r2
    clear r1 r2
    go_wp2_with (first
      | (refine wpList_load_row rfl 26 (.tmp 4) rfl (w.heap.size + 1) rfl 26 (bvs zs20).toArray (0, 0) _ R2.out Tryz.underlying26 rfl zi.out ?_)
      | (refine wpList_store_row rfl 26 (.tmp 2) (.tmp 9) rfl w.heap.size (bvs zs20).toArray rfl rfl 26 _ R1.out zi.out rfl (one_bvs _) ?_))
    refine bodyPost_ret (results_cell_tmp1 rfl _ _ w.heap.size 26 (bvs zs20).toArray (0, 0) _ rfl (setRow_heap _ _ _ _ _ _ R1.out) Tryz.underlying26 rfl zi.out) rfl ?_
    exact ⟨by rw [HP.out]; rfl, below_setRow hb _ (Nat.le_refl _) _⟩
end
section
open Go.RowKit
set_option maxRecDepth 100000
set_option linter.unusedVariables false
theorem hexd_ord : ∀ n < 16, ∀ m < 16, ((hexd n < hexd m) ↔ n < m) ∧ ((hexd n = hexd m) ↔ n = m) := by decide +kernel
theorem hexd_dig (c : UInt8) : 0 ≤ dig c → hexd (dig c).toNat = c := by
  revert c
  refine u8_all ?_
  decide +kernel
theorem hexs_cons (x : UInt8) (a : List UInt8) : hexs (x :: a) = hexd (x.toNat / 16) :: hexd (x.toNat % 16) :: hexs a := by simp [hexs]
theorem hexs_less : ∀ (a b : List UInt8), a.length = b.length → Op.bytesLess (hexs a) (hexs b) = decide (Lib.compareBytes a b < 0)
  | [], [], _ => by simp [hexs, Op.bytesLess, Lib.compareBytes]
  | [], _ :: _, h => by simp at h
  | _ :: _, [], h => by simp at h
  | x :: a, y :: b, h => by
    have ih := hexs_less a b (by simpa using h)
    have hx := x.toNat_lt
    have hy := y.toNat_lt
    obtain ⟨p1, p2⟩ := hexd_ord (x.toNat / 16) (by omega) (y.toNat / 16) (by omega)
    obtain ⟨q1, q2⟩ := hexd_ord (x.toNat % 16) (by omega) (y.toNat % 16) (by omega)
    have l1 : x < y ↔ x.toNat < y.toNat := Iff.rfl
    have l2 : y < x ↔ y.toNat < x.toNat := Iff.rfl
    rw [hexs_cons, hexs_cons, Op.bytesLess, Op.bytesLess, ih, Lib.compareBytes]
    rcases Nat.lt_trichotomy x.toNat y.toNat with hlt | heq | hgt
    · rw [if_pos (l1.2 hlt)]
      rcases Nat.lt_or_ge (x.toNat / 16) (y.toNat / 16) with g | g
      · simp [p1.2 g]
      · have e1 : x.toNat / 16 = y.toNat / 16 := by omega
        have e2 : x.toNat % 16 < y.toNat % 16 := by omega
        simp [p2.2 e1, q1.2 e2]
    · have e : x = y := UInt8.toNat_inj.1 heq
      subst e
      have n1 : ¬ x < x := fun h => by have := l1.1 h; omega
      rw [if_neg n1, if_neg n1]
      simp
    · rw [if_neg (fun h => by have := l1.1 h; omega), if_pos (l2.2 hgt)]
      have n1 : ¬ hexd (x.toNat / 16) < hexd (y.toNat / 16) := fun h => by have := p1.1 h; omega
      have n2 : ¬ (hexd (x.toNat / 16) = hexd (y.toNat / 16) ∧ hexd (x.toNat % 16) < hexd (y.toNat % 16)) := fun ⟨h1, h2⟩ => by
        have := p2.1 h1; have := q1.1 h2; omega
      have n3 : ¬ (hexd (x.toNat / 16) = hexd (y.toNat / 16) ∧ hexd (x.toNat % 16) = hexd (y.toNat % 16)) := fun ⟨h1, h2⟩ => by
        have := p2.1 h1; have := q2.1 h2; omega
      by_cases g : hexd (x.toNat / 16) = hexd (y.toNat / 16)
      · have m2 : ¬ hexd (x.toNat % 16) < hexd (y.toNat % 16) := fun h => n2 ⟨g, h⟩
        have m3 : ¬ hexd (x.toNat % 16) = hexd (y.toNat % 16) := fun h => n3 ⟨g, h⟩
        simp [n1, m2, m3]
      · simp [n1, g]
theorem cmp_three : ∀ (a b : List UInt8), a.length = b.length → (a = b ∧ Lib.compareBytes a b = 0) ∨ (a ≠ b ∧ Lib.compareBytes a b = -1 ∧ Lib.compareBytes b a = 1) ∨ (a ≠ b ∧ Lib.compareBytes a b = 1 ∧ Lib.compareBytes b a = -1)
  | [], [], _ => .inl ⟨rfl, rfl⟩
  | [], _ :: _, h => by simp at h
  | _ :: _, [], h => by simp at h
  | x :: a, y :: b, h => by
    have ih := cmp_three a b (by simpa using h)
    have l1 : x < y ↔ x.toNat < y.toNat := Iff.rfl
    have l2 : y < x ↔ y.toNat < x.toNat := Iff.rfl
    rcases Nat.lt_trichotomy x.toNat y.toNat with hlt | heq | hgt
    · refine .inr (.inl ⟨fun e => ?_, ?_, ?_⟩)
      · injection e with e; subst e; omega
      · rw [Lib.compareBytes, if_pos (l1.2 hlt)]
      · rw [Lib.compareBytes, if_neg (fun h => by have := l2.1 h; omega), if_pos (l1.2 hlt)]
    · have e : x = y := UInt8.toNat_inj.1 heq
      subst e
      have n1 : ¬ x < x := fun h => by have := l1.1 h; omega
      simp only [Lib.compareBytes, if_neg n1]
      rcases ih with ⟨rfl, h⟩ | ⟨h1, h2⟩ | ⟨h1, h2⟩
      · exact .inl ⟨rfl, h⟩
      · exact .inr (.inl ⟨fun e => h1 (by injection e), h2⟩)
      · exact .inr (.inr ⟨fun e => h1 (by injection e), h2⟩)
    · refine .inr (.inr ⟨fun e => ?_, ?_, ?_⟩)
      · injection e with e; subst e; omega
      · rw [Lib.compareBytes, if_neg (fun h => by have := l1.1 h; omega), if_pos (l2.2 hgt)]
      · rw [Lib.compareBytes, if_pos (l2.2 hgt)]
theorem unhex : ∀ (n : Nat) (s : List UInt8), s.length = 2 * n → allHex s → ∃ id : List UInt8, id.length = n ∧ hexs id = s
  | 0, s, h, _ => ⟨[], rfl, by simp at h; subst h; rfl⟩
  | n + 1, [], h, _ => by simp at h
  | n + 1, [_], h, _ => by simp at h; omega
  | n + 1, c :: d :: t, h, hh => by
    obtain ⟨id, h1, h2⟩ := unhex n t (by simp at h; omega) (fun x hx => hh x (by simp [hx]))
    have hc := hh c (by simp)
    have hd := hh d (by simp)
    have lc := dig_lt c
    have ld := dig_lt d
    refine ⟨UInt8.ofNat ((dig c).toNat * 16 + (dig d).toNat) :: id, by simp [h1], ?_⟩
    have e : (UInt8.ofNat ((dig c).toNat * 16 + (dig d).toNat)).toNat = (dig c).toNat * 16 + (dig d).toNat := by
      simp; omega
    rw [hexs_cons, e, h2, show ((dig c).toNat * 16 + (dig d).toNat) / 16 = (dig c).toNat by omega, show ((dig c).toNat * 16 + (dig d).toNat) % 16 = (dig d).toNat by omega, hexd_dig c hc, hexd_dig d hd]
theorem dig_hex (c : UInt8) : 0 ≤ dig c ↔ (48 ≤ c.toNat ∧ c.toNat ≤ 57) ∨ (97 ≤ c.toNat ∧ c.toNat ≤ 102) := by
  unfold dig
  split
  · omega
  · split <;> omega
/-- what a turned text tells -/
theorem turned (a : List UInt8) (ha : a.length = 20) (k : Nat) (hk : k < 40) (c : UInt8) :
    (c = (hexs a).getD k 0 → parseI ((hexs a).set k c) = (a, 0)) ∧
    (c ≠ (hexs a).getD k 0 → (0 ≤ dig c → ∃ p, parseI ((hexs a).set k c) = (p, 0) ∧ p.length = 20 ∧ p ≠ a) ∧ (¬ 0 ≤ dig c → ∃ p, parseI ((hexs a).set k c) = (p, 2) ∧ p.length = 20)) := by
  have hl : (hexs a).length = 40 := by rw [hexs_len, ha]
  have hkl : k < (hexs a).length := by omega
  have hg : (hexs a).getD k 0 = (hexs a)[k] := by rw [List.getD_eq_getElem?_getD, List.getElem?_eq_getElem hkl]; rfl
  have hs : ((hexs a).set k c)[k]'(by simp; exact hkl) = c := by simp
  rw [hg]
  refine ⟨fun e => ?_, fun hne => ⟨fun hd => ?_, fun hd => ?_⟩⟩
  · subst e
    rw [List.set_getElem_self]
    exact parseI_hexs a ha
  · have hh : allHex ((hexs a).set k c) := fun x hx => by
      rcases List.mem_or_eq_of_mem_set hx with h | rfl
      · exact allHex_hexs a x h
      · exact hd
    obtain ⟨id, h1, h2⟩ := unhex 20 ((hexs a).set k c) (by simp [hl]) hh
    refine ⟨id, by rw [← h2, parseI_hexs id h1], h1, fun e => hne ?_⟩
    subst e
    have : ((hexs id).set k c)[k]'(by simp; exact hkl) = (hexs id)[k] := by simp only [← h2]
    rw [hs] at this
    exact this
  · refine ⟨List.replicate 20 0, ?_, by simp⟩
    unfold parseI
    rw [if_neg]
    rintro ⟨_, hh⟩
    exact hd (by have := hh _ (List.getElem_mem (l := (hexs a).set k c) (n := k) (by simp; exact hkl)); rwa [hs] at this)
end
section
open Go.RowKit
set_option maxRecDepth 100000
set_option maxHeartbeats 4000000
set_option linter.unusedVariables false
theorem eqItems_b (d : Nat) (a b : List UInt8) (w : World) : ∀ is : List Nat, (∀ i ∈ is, i < a.length ∧ i < b.length) →
    (Op.eqItems (d + 1) 5 1 (bvs a).toArray (bvs b).toArray is).run Tryz.prog w = .ok (decide (∀ i ∈ is, a[i]? = b[i]?)) w
  | [], _ => by simp [Op.eqItems]
  | i :: is, h => by
    obtain ⟨ha, hb⟩ := h i (by simp)
    have ih := eqItems_b d a b w is (fun j hj => h j (by simp [hj]))
    have pa : (part 5 (bvs a).toArray i).run Tryz.prog w = .ok (.int .u8 (a[i].toNat : Int)) w := run_part_plain w (by kernel_rfl) (by simp [bvs, bv, ha])
    have pb : (part 5 (bvs b).toArray i).run Tryz.prog w = .ok (.int .u8 (b[i].toNat : Int)) w := run_part_plain w (by kernel_rfl) (by simp [bvs, bv, hb])
    have pe : (Op.equalIn (d + 1) 5 (.int .u8 (a[i].toNat : Int)) (.int .u8 (b[i].toNat : Int))).run Tryz.prog w = .ok ((a[i].toNat : Int) == (b[i].toNat : Int)) w := by
      simp [Op.equalIn, run_underlying Tryz.underlying5]
    have hab : a[i]? = b[i]? ↔ a[i] = b[i] := by simp [ha, hb]
    simp only [Op.eqItems, Sem.run_bind, Nat.mul_one, pa, pb, pe, Result.andThen_ok]
    by_cases he : a[i] = b[i]
    · simp only [he, beq_self_eq_true, Bool.not_true, Bool.false_eq_true, if_false, ih]
      congr 1
      simp [he, hab]
    · have hn : ((a[i].toNat : Int) == (b[i].toNat : Int)) = false := by
        simp only [beq_eq_false_iff_ne, ne_eq]
        intro e
        exact he (UInt8.toNat_inj.1 (by omega))
      simp only [hn, Bool.not_false, if_true, Sem.run_pure]
      congr 1
      simp [he, ha, hb]
theorem eqlIn_run (T : Nat) (hT : Tryz.prog.underlying T = some (.array 20 5)) (a b : List UInt8) (ha : a.length = 20) (hb : b.length = 20) (w : World) :
    (Op.equalIn 10000 T (idv a) (idv b)).run Tryz.prog w = .ok (decide (a = b)) w := by
  obtain ⟨i5, hi, _⟩ := info_parts Tryz.info5
  have h1 := run_equalIn_array (P := Tryz.prog) (w := w) 9999 (bvs a).toArray (bvs b).toArray hT hi
  have hc : Tryz.prog.cellsOf 5 = 1 := by kernel_rfl
  rw [hc, eqItems_b 9998 a b w (List.range 20) (fun i hi => by simp at hi; omega)] at h1
  have hd : decide (∀ i ∈ List.range 20, a[i]? = b[i]?) = decide (a = b) := by
    refine decide_eq_decide.2 ⟨fun h => List.ext_getElem? fun i => ?_, fun h i _ => by rw [h]⟩
    by_cases hi : i < 20
    · exact h i (by simpa using hi)
    · rw [List.getElem?_eq_none (by omega), List.getElem?_eq_none (by omega)]
  rw [h1, hd]
theorem eqlIn_run9 (d : Nat) (T : Nat) (hT : Tryz.prog.underlying T = some (.array 20 5)) (a b : List UInt8) (ha : a.length = 20) (hb : b.length = 20) (w : World) :
    (Op.equalIn (d + 2) T (idv a) (idv b)).run Tryz.prog w = .ok (decide (a = b)) w := by
  obtain ⟨i5, hi, _⟩ := info_parts Tryz.info5
  have h1 := run_equalIn_array (P := Tryz.prog) (w := w) (d + 1) (bvs a).toArray (bvs b).toArray hT hi
  have hc : Tryz.prog.cellsOf 5 = 1 := by kernel_rfl
  rw [hc, eqItems_b d a b w (List.range 20) (fun i hi => by simp at hi; omega)] at h1
  have hd : decide (∀ i ∈ List.range 20, a[i]? = b[i]?) = decide (a = b) := by
    refine decide_eq_decide.2 ⟨fun h => List.ext_getElem? fun i => ?_, fun h i _ => by rw [h]⟩
    by_cases hi : i < 20
    · exact h i (by simpa using hi)
    · rw [List.getElem?_eq_none (by omega), List.getElem?_eq_none (by omega)]
  rw [h1, hd]
theorem eql_run (T : Nat) (hT : Tryz.prog.underlying T = some (.array 20 5)) (a b : List UInt8) (ha : a.length = 20) (hb : b.length = 20) (w : World) :
    (binOp .eql T (idv a) (idv b)).run Tryz.prog w = .ok (.bool (decide (a = b))) w := by
  rw [run_eql_struct, eqlIn_run T hT a b ha hb w]
  rfl
theorem neq_run (T : Nat) (hT : Tryz.prog.underlying T = some (.array 20 5)) (a b : List UInt8) (ha : a.length = 20) (hb : b.length = 20) (w : World) :
    (binOp .neq T (idv a) (idv b)).run Tryz.prog w = .ok (.bool (decide (a ≠ b))) w := by
  have h := eql_run T hT a b ha hb w
  rw [run_eql_struct] at h
  rw [run_neq_struct]
  generalize (Op.equalIn 10000 T (idv a) (idv b)).run Tryz.prog w = r at h ⊢
  cases r with
  | ok v w1 =>
    simp only [Result.andThen] at h ⊢
    injection h with h1 h2
    injection h1 with h1
    subst h1 h2
    simp
  | halt x w1 => simp [Result.andThen] at h
end
section
open Go.RowKit
set_option maxRecDepth 100000
set_option maxHeartbeats 4000000
set_option linter.unusedVariables false
section
variable {H : Type} {enc : TypeId × Value → H} {P : Program} {e : TypeId} {W : World} {base : Nat} {sp : Nat → Bool} {held : Bool}
theorem cells_of_mapM (he : P.underlying e = some (.int .u8)) {m : Nat} {cs : List Value} {c : Nat} : ∀ (L : List Nat) (xs : List (DataW H × List MemPlace)),
    L.mapM (fun i => DataW.trod enc P W base sp held m e ((cs.drop (i * c)).take c)) = some xs → ∀ i ∈ L, ∃ a : Int, (cs.drop (i * c)).take c = [.int .u8 a] ∧ (Lit.int .u8 a).wf = true
  | [], xs, h => by simp
  | i :: L, xs, h => by
    rw [List.mapM_cons] at h
    simp only [bind, Option.bind_eq_some_iff, pure, Option.some.injEq] at h
    obtain ⟨y, hy, ys, hys, rfl⟩ := h
    have ih := cells_of_mapM he L ys hys
    obtain ⟨a, ea, rfl, wa⟩ := DataW.trod_int he hy
    intro j hj
    rcases List.mem_cons.1 hj with rfl | hj
    · exact ⟨a, ea, wa⟩
    · exact ih j hj
end
theorem open_id {H : Type} {enc : TypeId × Value → H} {W : World} {base b0 : Nat} {sp : Nat → Bool} {held : Bool} {r : Reach} {T : TypeId} (hT : Tryz.prog.underlying T = some (.array 20 5)) (hs : (Tryz.prog.info? T).map (·.size) = some 20) {v : Value} {d : DataW H} {ps : List MemPlace}
    (hval : Value.okWide Tryz.prog W r b0 T v) (h : DataW.Trod enc Tryz.prog W base sp held T v d ps) : ∃ l : List UInt8, v = idv l ∧ l.length = 20 := by
  have hc1 : Tryz.prog.cellsOf 5 = 1 := by kernel_rfl
  have hcT : Tryz.prog.cellsOf T = 20 := by
    unfold Program.cellsOf
    cases hq : Tryz.prog.info? T with
    | none => simp [hq] at hs
    | some i => simpa [hq] using hs
  simp only [Value.okWide, hT] at hval
  obtain ⟨cs, rfl, h2, _⟩ := hval
  rw [hcT] at h2
  obtain ⟨fuel, hf⟩ := h
  cases fuel with
  | zero => simp [DataW.trod] at hf
  | succ m =>
    rw [DataW.trod_step] at hf
    unfold DataW.trodStep at hf
    simp only [hT, Value.cells] at hf
    rw [if_pos (by rw [hcT]; simpa using h2)] at hf
    simp only [Option.map_eq_some_iff] at hf
    obtain ⟨ys, hy, e1⟩ := hf
    have hall := cells_of_mapM Tryz.underlying5 _ ys hy
    rw [hc1] at hall
    refine ⟨cs.toList.map fun v => match v with | .int _ a => UInt8.ofNat a.toNat | _ => 0, ?_, by simpa using h2⟩
    congr 1
    apply Array.ext'
    apply List.ext_getElem
    · simp
    intro i h1 h3
    obtain ⟨a, ha, wa⟩ := hall i (by simp at h1; simp; omega)
    have hi : i < cs.toList.length := h1
    have hg : cs.toList[i] = .int .u8 a := by
      have : (cs.toList.drop (i * 1)).take 1 = [cs.toList[i]] := by
        rw [Nat.mul_one, List.drop_eq_getElem_cons hi]; rfl
      rw [this] at ha
      simpa using ha
    have hb := bounds_u8 wa
    simp only [bvs, List.getElem_map, bv]
    rw [hg]
    simp
    omega
end
end Go.Proofs.YtcedfapcpmedfaaGreatDoor
