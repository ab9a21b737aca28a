/- Words on memory: slices that are read, cut, handed on; plain lemmas on lists and regions. No condition. -/
import Derived.WalkKit
import Derived.Lib.Hide
import Derived.Deep.QuietTactic
import Derived.BigQuiet
import Derived.Laws.CopyOwn
import Derived.Lib.SlBytesConst
import Derived.OpenShut
import Derived.Laws.AppendOwnNone
namespace Go.Proofs.YtmfhlhjnfaiegaaDoor
open Go.RowKit
/-- The cells of a slice read as these values. -/
def Sl (w : World) (A : Option Addr) (l : List Value) : Prop :=
  ∀ j v, l[j]? = some v → ∃ ad, A = some ad ∧ w.cell? (ad.add j) = some v
theorem Sl.nil (w : World) (A : Option Addr) : Sl w A [] := fun j v h => by simp at h
theorem Sl.below {w w' : World} {A : Option Addr} {l : List Value} (h : Sl w A l) (hb : Below w.heap.size w w') : Sl w' A l := fun j v hj => by
  obtain ⟨ad, e, hc⟩ := h j v hj
  exact ⟨ad, e, (hb.cell (World.block_lt_of_cell? w _ hc)).trans hc⟩
theorem add_plain (b o j : Nat) : (⟨b, o, none⟩ : Addr).add j = ⟨b, o + j, none⟩ := by unfold Addr.add; split <;> simp_all
theorem Sl.of_block {w : World} {b off : Nat} {cs : Array Value} {t : TypeId} {fr : Nat × Nat} (h : w.heap[b]? = some (.cells cs t fr)) {l : List Value}
    (hl : ∀ j v, l[j]? = some v → cs[off + j]? = some v) : Sl w (some ⟨b, off, none⟩) l := fun j v hj => by
  refine ⟨_, rfl, ?_⟩
  rw [add_plain]
  simp only [World.cell?, h]
  exact hl j v hj
theorem Sl.take {w : World} {A : Option Addr} {l : List Value} (h : Sl w A l) (n : Nat) : Sl w A (l.take n) := fun j v hj => by
  rw [List.getElem?_take] at hj
  split at hj
  · exact h j v hj
  · cases hj
theorem Sl.drop {w : World} {b off : Nat} {l : List Value} (h : Sl w (some ⟨b, off, none⟩) l) (n : Nat) : Sl w (some ⟨b, off + n, none⟩) (l.drop n) := fun j v hj => by
  rw [List.getElem?_drop] at hj
  obtain ⟨ad, e, hc⟩ := h _ v hj
  injection e with e
  subst e
  rw [add_plain] at hc
  refine ⟨_, rfl, ?_⟩
  rw [add_plain, Nat.add_assoc]
  exact hc
/-- where a slice that is cut in front begins -/
def cutA (A : Option Addr) (c k s : Nat) : Option Addr := if c = k then A else A.map (·.add (k * s))
theorem cutA_zero (A : Option Addr) (c s : Nat) : cutA A c 0 s = A := by
  unfold cutA; split
  · rfl
  · cases A <;> simp [Addr.add]
theorem Sl.cut {w : World} {A : Option Addr} {l : List Value} (h : Sl w A l) (k c s : Nat) (hc : l.length ≤ c * s) : Sl w (cutA A c k s) (l.drop (k * s)) := fun j v hj => by
  rw [List.getElem?_drop] at hj
  have hlt : k * s + j < l.length := by
    rcases Nat.lt_or_ge (k * s + j) l.length with h | h
    · exact h
    · rw [List.getElem?_eq_none h] at hj; cases hj
  have hne : c ≠ k := fun e => by subst e; omega
  obtain ⟨ad, e, hc⟩ := h _ v hj
  subst e
  exact ⟨ad.add (k * s), by simp [cutA, hne], by rw [Addr.add_add]; exact hc⟩
theorem wp_region_quietC {P : Program} {C : World → Prop} {id : Nat} {Q : Exit → Act → World → Prop} {a : Act} {w : World} {l : List Oper} (hC : C w.drew) (hm : P.follows .mixedOrders = true) (hB : Region.lexB .any l.toArray = true)
    (h : wpQuiet P l.toArray C (fun a' => ∀ w', C w' → Q .normal a' w') l a) : (Code.region id l.toArray true).wp P Q a w :=
  wp_region_quiet (C := C) hm hB hC (by simpa using h)
theorem quietB {P : Program} {f : FuncId} {args : Array Value} {W w : World} {v : Value} (hb : Below W.heap.size W w) (h : Calls P f args w fun e w' => e = .returned v ∧ Below w.heap.size w w') :
    Calls P f args w fun e w' => e = .returned v ∧ Below W.heap.size W w' := h.mono fun _ _ ⟨he, h'⟩ => ⟨he, hb.trans (h'.mono hb.size)⟩
theorem quietS {P : Program} {f : FuncId} {args : Array Value} {W w : World} {v : Value} (hb : Below W.heap.size W w) (h : Calls P f args w fun e w' => e = .returned v ∧ w = w') :
    Calls P f args w fun e w' => e = .returned v ∧ Below W.heap.size W w' := h.mono fun _ _ ⟨he, h'⟩ => ⟨he, h' ▸ hb⟩
/-- append(s, x...) where s is the call's own and x can be read -/
theorem wpList_app {P : Program} {w : World} {ops : Array Oper} {rest : List Oper} {o : Oper} {a : Act} {Q : Exit → Act → World → Prop} (hgd : o.guard = none) (s x : Operand) (t : TypeId)
    (ho : o.op = .call { callee := .builtin .append, args := #[s, x], argTypes := #[t, t] })
    (base : Nat) (e : TypeId) (z : Value) (size bytes : Nat) (ht : P.underlying t = some (.slice e)) (hinfo : (P.info? e).map (fun i => (i.zero, i.size, i.bytes)) = some (some z, size, bytes))
    (hzs : z.cells.size = size) (hsz : 0 < size)
    (v : Value) (n : Nat) (xs : List Value) (hs : a.eval s = v) (hown : w.ownsRow base e size v n xs)
    (A : Option Addr) (m c : Nat) (news : List Value) (hx : a.eval x = .slice A m c) (hl : news.length = m * size) (hnews : Sl w A news) (h1 : ∀ u ∈ news, u.oneCell' = true)
    (hbytes : (n + m) * bytes ≤ 140737488355328) (h63 : n + m ≤ maxLen) (hbase : base ≤ w.heap.size)
    (h : ∀ v' w', w'.ownsRow base e size v' (n + m) (xs ++ news) → w.grownBy w' v.ownBlock → wpList P ops Q rest (a.put o.dst v') w') : wpList P ops Q (o :: rest) a w := by
  obtain ⟨i, hi, hz, hsize, hby⟩ := info_parts hinfo
  cases A with
  | some ad =>
    exact wpList_append_own w hgd s x t ho base e i z size bytes ht hi hz hsize hby hzs hsz v n xs hs hown ad m c news hx hl
      (fun j u hj => by obtain ⟨ad', e', hc⟩ := hnews j u hj; injection e' with e'; subst e'; exact hc) h1 h63 hbytes hbase (fun v' w' h2 h3 _ => h v' w' h2 h3)
  | none =>
    have hn : news = [] := by
      cases news with
      | nil => rfl
      | cons u l => obtain ⟨ad', e', _⟩ := hnews 0 u rfl; cases e'
    subst hn
    have hm : m = 0 := by
      rcases Nat.eq_zero_or_pos m with h | h
      · exact h
      · have hp := Nat.mul_pos h hsz
        rw [List.length_nil] at hl
        omega
    subst hm
    refine wpList_plain hgd fun K hK => ?_
    have hrun : (Builtin.append_ #[t, t] o.type #[v, .slice none 0 c]).run P w = .ok v w := by
      rcases hown.2 with ⟨rfl, rfl⟩ | ⟨g, cap, cur, rfl, _, _, hnc, _⟩
      · simp [Builtin.append_, run_underlying ht, sizeOf, typeInfo, hi, Builtin.lenOf, Builtin.firstCells]
      · simp [Builtin.append_, run_underlying ht, sizeOf, typeInfo, hi, Builtin.lenOf, Builtin.firstCells, hnc, storeCells]
    unfold Oper.wp
    simp [execOp, ho, resolve, invoke, builtin, hs, hx, hrun, Result.andThen]
    exact hK _ _ (h v w (by simpa using hown) ⟨rfl, rfl, rfl, Nat.le_refl _, fun _ _ _ => rfl⟩)
theorem quietN {P : Program} {f : FuncId} {args : Array Value} {w : World} {n : Nat} {v : Value}
    (h : Calls P f args (w.drewN n) fun e w' => e = .returned v ∧ w.drewN n = w') : Calls P f args (w.drewN n) fun e w'' => e = .returned v ∧ ∃ m, w'' = w.drewN m :=
  h.mono fun _ _ ⟨he, hm⟩ => ⟨he, n, hm.symm⟩
/-- bytes as values -/
def bv (c : UInt8) : Value := .int .u8 c.toNat
def bvs (l : List UInt8) : List Value := l.map bv
@[simp] theorem bvs_length (l : List UInt8) : (bvs l).length = l.length := by simp [bvs]
abbrev Bs (w : World) (A : Option Addr) (l : List UInt8) : Prop := Sl w A (bvs l)
theorem Bs.at {w : World} {A : Option Addr} {l : List UInt8} (h : Bs w A l) {j : Nat} (hj : j < l.length) :
    ∃ ad, A = some ad ∧ w.cell? (ad.add j) = some (.int .u8 (l[j].toNat : Int)) :=
  h j _ (by simp [bvs, bv, hj])
theorem Bs.take {w : World} {A : Option Addr} {l : List UInt8} (h : Bs w A l) (k : Nat) : Bs w A (l.take k) := by
  have := Sl.take h k
  unfold Bs bvs at *
  rwa [List.map_take]
theorem Bs.cut {w : World} {A : Option Addr} {l : List UInt8} (h : Bs w A l) (k c : Nat) (hc : l.length ≤ c) : Bs w (cutA A c k 1) (l.drop k) := by
  have := Sl.cut h k c 1 (by simpa using hc)
  unfold Bs bvs at *
  rw [Nat.mul_one] at this
  rwa [List.map_drop]
theorem bvs_append (a b : List UInt8) : bvs (a ++ b) = bvs a ++ bvs b := by simp [bvs]
theorem bvs_one (l : List UInt8) : ∀ u ∈ bvs l, u.oneCell' = true := fun u hu => by
  obtain ⟨c, _, rfl⟩ := List.mem_map.1 hu
  rfl
/-- a slice of the call's own reads as these bytes -/
abbrev Own (w : World) (B e : Nat) (v : Value) (l : List UInt8) : Prop := w.ownsRow B e 1 v l.length (bvs l)
theorem Own.reads {w : World} {B e : Nat} {v : Value} {l : List UInt8} (h : Own w B e v l) : ∃ A c, v = .slice A l.length c ∧ l.length ≤ c ∧ Bs w A l := by
  obtain ⟨hl, h⟩ := h
  rcases h with ⟨rfl, h0⟩ | ⟨g, cap, cur, rfl, _, hg, hc, _, _, ht⟩
  · have : l = [] := List.eq_nil_of_length_eq_zero h0
    subst this
    exact ⟨none, 0, rfl, by simp, Sl.nil _ _⟩
  · refine ⟨_, cap, rfl, hc, Sl.of_block hg fun j v hj => ?_⟩
    rw [← ht, List.getElem?_take] at hj
    split at hj
    · simpa using hj
    · cases hj
theorem Own.at {w : World} {B e n c : Nat} {A : Option Addr} {l : List UInt8} (h : Own w B e (.slice A n c) l) : Bs w A l := by
  obtain ⟨A', c', he, _, hA⟩ := h.reads
  injection he with h1 _ _
  rw [h1]; exact hA
theorem ownsRow_below {w w' : World} {B e size n : Nat} {v : Value} {xs : List Value} (h : w.ownsRow B e size v n xs) (hb : Below w.heap.size w w') : w'.ownsRow B e size v n xs :=
  h.kept (row := none) ⟨hb.os, hb.tape, hb.output, hb.size, fun i hi _ => hb.block i hi⟩ (by cases v.ownBlock <;> simp)
theorem ownsRow_keep {w w' : World} {B C e size n : Nat} {v : Value} {xs : List Value} (h : w.ownsRow B e size v n xs) (hb : Below C w w') (hC : ∀ g, v.ownBlock = some g → g < C) : w'.ownsRow B e size v n xs := by
  obtain ⟨h1, h⟩ := h
  refine ⟨h1, ?_⟩
  rcases h with h | ⟨g, cap, cur, rfl, h2, h3, h4⟩
  · exact .inl h
  · exact .inr ⟨g, cap, cur, rfl, h2, (hb.block g (hC g rfl)).trans h3, h4⟩
theorem Below.drewN {B : Nat} {a w : World} (h : Below B a w) (n : Nat) : Below B a (w.drewN n) := ⟨h.os, h.tape, h.output, h.size, h.block⟩
theorem Own.empty {w : World} {B e : Nat} (hB : B ≤ w.heap.size) : Own (w.alloc (.cells #[] e)) B e (.slice (some ⟨w.heap.size, 0, none⟩) 0 0) [] :=
  World.ownsRow_lit w #[] 0 hB (by unfold maxLen; omega) rfl
theorem Below.app {B : Nat} {a w w' : World} {e size n : Nat} {v : Value} {xs : List Value} (h : Below B a w) (hown : w.ownsRow B e size v n xs) (hg : w.grownBy w' v.ownBlock) (hB : B ≤ w.heap.size) : Below B a w' :=
  h.grown hg hB (fun k hk => (hown.lt k hk).1)
/-- an argument of bytes, as the row's frame hands it over -/
theorem bytes_of_row {w : World} {a : Option Addr} {len cap : Nat} {zs : List Int}
    (h : (a = none ∧ len = 0 ∧ cap = 0 ∧ zs = []) ∨ ∃ x, a = some x ∧ len ≤ cap ∧ cap ≤ maxLen ∧ zs.length = cap ∧ (∀ i, i < zs.length → w.cell? (x.add i) = some (.int .u8 (zs.getD i 0))) ∧ ∀ n ∈ zs, (Lit.int .u8 n).wf = true) :
    ∃ l : List UInt8, len = l.length ∧ l.length ≤ cap ∧ cap ≤ maxLen ∧ Bs w a l := by
  rcases h with ⟨rfl, rfl, rfl, rfl⟩ | ⟨x, rfl, h1, h2, h3, h4, h5⟩
  · exact ⟨[], rfl, by simp, by simp, Sl.nil _ _⟩
  · have hlen : ((zs.take len).map fun n => UInt8.ofNat n.toNat).length = len := by simp; omega
    refine ⟨(zs.take len).map fun n => UInt8.ofNat n.toNat, hlen.symm, by rw [hlen]; exact h1, h2, fun j v hj => ⟨x, rfl, ?_⟩⟩
    have hlt : j < len := by
      rcases Nat.lt_or_ge j len with h | h
      · exact h
      · rw [List.getElem?_eq_none (by simp; omega)] at hj; cases hj
    have hz : j < zs.length := by omega
    have hb := bounds_u8 (h5 zs[j] (List.getElem_mem hz))
    rw [h4 j hz]
    simp [bvs, bv, hlt, hz] at hj
    rw [← hj, List.getD_eq_getElem?_getD, List.getElem?_eq_getElem hz]
    simp only [Option.getD_some]
    congr 2
    omega
theorem ints_of_row {w : World} {k : IntKind} {a : Option Addr} {len cap : Nat} {zs : List Int}
    (h : (a = none ∧ len = 0 ∧ cap = 0 ∧ zs = []) ∨ ∃ x, a = some x ∧ len ≤ cap ∧ cap ≤ maxLen ∧ zs.length = cap ∧ (∀ i, i < zs.length → w.cell? (x.add i) = some (.int k (zs.getD i 0))) ∧ ∀ n ∈ zs, (Lit.int k n).wf = true) :
    ∃ l : List Int, len = l.length ∧ l.length ≤ cap ∧ cap ≤ maxLen ∧ Sl w a (l.map (Value.int k)) ∧ ∀ n ∈ l, (Lit.int k n).wf = true := by
  rcases h with ⟨rfl, rfl, rfl, rfl⟩ | ⟨x, rfl, h1, h2, h3, h4, h5⟩
  · exact ⟨[], rfl, by simp, by simp, Sl.nil _ _, by simp⟩
  · have hlen : (zs.take len).length = len := by simp; omega
    refine ⟨zs.take len, hlen.symm, by rw [hlen]; exact h1, h2, fun j v hj => ⟨x, rfl, ?_⟩, fun n hn => h5 n (List.mem_of_mem_take hn)⟩
    have hlt : j < len := by
      rcases Nat.lt_or_ge j len with h | h
      · exact h
      · rw [List.getElem?_eq_none (by simp; omega)] at hj; cases hj
    have hz : j < zs.length := by omega
    rw [h4 j hz]
    simp [hlt, hz] at hj
    rw [← hj, List.getD_eq_getElem?_getD, List.getElem?_eq_getElem hz]; rfl
/-- a slice of slices of bytes -/
def Rws (w : World) (A : Option Addr) (ls : List (List UInt8)) : Prop :=
  ∀ j l, ls[j]? = some l → ∃ ad Aj cj, A = some ad ∧ w.cell? (ad.add j) = some (.slice Aj l.length cj) ∧ l.length ≤ cj ∧ Bs w Aj l
theorem Rws.below {w w' : World} {A : Option Addr} {ls : List (List UInt8)} (h : Rws w A ls) (hb : Below w.heap.size w w') : Rws w' A ls := fun j l hj => by
  obtain ⟨ad, Aj, cj, e, hc, hl, hs⟩ := h j l hj
  exact ⟨ad, Aj, cj, e, (hb.cell (World.block_lt_of_cell? w _ hc)).trans hc, hl, hs.below hb⟩
theorem rows_of_row {w : World} {a : Option Addr} {len cap : Nat} {A : Nat → Option Addr} {L C : Nat → Nat} {Z : Nat → List Int}
    (h : (a = none ∧ len = 0 ∧ cap = 0) ∨ ∃ x, a = some x ∧ len ≤ cap ∧ cap ≤ maxLen ∧ ∀ r, r < cap → w.cell? (x.add r) = some (.slice (A r) (L r) (C r)) ∧ L r ≤ C r ∧ (Z r).length = C r ∧ (∀ n ∈ Z r, (Lit.int .u8 n).wf = true) ∧ (A r = none → C r = 0) ∧
      ∀ a', A r = some a' → ∀ c, c < C r → w.cell? (a'.add c) = some (.int .u8 ((Z r).getD c 0))) :
    ∃ l : List (List UInt8), len = l.length ∧ l.length ≤ cap ∧ cap ≤ maxLen ∧ Rws w a l := by
  rcases h with ⟨rfl, rfl, rfl⟩ | ⟨x, rfl, h1, h2, h3⟩
  · exact ⟨[], rfl, by simp, by simp, fun j l hj => by simp at hj⟩
  · let row (r : Nat) : List UInt8 := ((Z r).take (L r)).map fun n => UInt8.ofNat n.toNat
    have hlen : ((List.range len).map row).length = len := by simp
    refine ⟨(List.range len).map row, hlen.symm, by rw [hlen]; exact h1, h2, fun j l hj => ?_⟩
    have hlt : j < len := by
      rcases Nat.lt_or_ge j len with h | h
      · exact h
      · rw [List.getElem?_eq_none (by simp; omega)] at hj; cases hj
    simp only [List.getElem?_map, List.getElem?_range hlt, Option.map_some, Option.some.injEq] at hj
    subst hj
    obtain ⟨hc, hL, hz, hwf, hnone, hcell⟩ := h3 j (by omega)
    have hrl : (row j).length = L j := by simp [row]; omega
    refine ⟨x, A j, C j, rfl, by rw [hrl]; exact hc, by rw [hrl]; exact hL, fun i v hi => ?_⟩
    have hil : i < L j := by
      rcases Nat.lt_or_ge i (L j) with h | h
      · exact h
      · rw [List.getElem?_eq_none (by rw [bvs_length, hrl]; exact h)] at hi; cases hi
    cases hA : A j with
    | none => have := hnone hA; omega
    | some ad =>
      refine ⟨ad, rfl, ?_⟩
      have hzi : i < (Z j).length := by omega
      have hb := bounds_u8 (hwf (Z j)[i] (List.getElem_mem hzi))
      rw [hcell ad hA i (by omega)]
      simp [row, bvs, bv, hil, hzi] at hi
      rw [← hi, List.getD_eq_getElem?_getD, List.getElem?_eq_getElem hzi]
      simp only [Option.getD_some]
      congr 2
      omega
theorem foldl_take {α β : Type} (f : α → β → α) (a : α) (l : List β) (k : Nat) (h : k < l.length) : (l.take (k + 1)).foldl f a = f ((l.take k).foldl f a) l[k] := by
  rw [List.take_succ_eq_append_getElem h, List.foldl_append]; rfl
theorem ret_int {k : IntKind} {a b : Int} (h : a = b) : Ending.returned (.int k a) = .returned (.int k b) := by rw [h]
theorem int_eq {k : IntKind} {a b : Int} (h : a = b) : Value.int k a = .int k b := by rw [h]
end Go.Proofs.YtmfhlhjnfaiegaaDoor
