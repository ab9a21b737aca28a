/- The maker's map of positions: what it holds; learn fills it. Condition: the base has at most 2^39 bytes. -/
import Derived.Test.YtpfjkappgdpfbaaDelB
import Derived.Deep.CutBlock
import Derived.Deep.RegionLaw
import Derived.Deep.DeepMust
import Derived.Maps.OwnRows
import Derived.Maps.Views
namespace Go.Proofs.Ytpfjkappgdpfbaa
open Go.RowKit
open Go.ChangeMaps Go.MapKept Go.ChangeShapes Go.Maps
open Go.WideElems (rd rg pl rd_val)
set_option maxRecDepth 100000
set_option maxHeartbeats 4000000
theorem zero94 (w : World) : (zeroValue 94).run Try.prog w = .ok (.slice none 0 0) w := by kernel_rfl
theorem Try.info3 : (Try.prog.info? 3).map (fun i => (i.zero, i.size, i.bytes)) = some (some (.int .i64 0), 1, 8) := by kernel_rfl
theorem ownsRow_heap {w w' : World} {B e size n : Nat} {v : Value} {xs : List Value} (h : w.ownsRow B e size v n xs) (hb : ∀ g, B ≤ g → g < w.heap.size → w'.heap[g]? = w.heap[g]?) : w'.ownsRow B e size v n xs := by
  obtain ⟨h1, h⟩ := h
  refine ⟨h1, ?_⟩
  rcases h with h | ⟨g, cap, cur, rfl, h2, h3, h4⟩
  · exact .inl h
  · exact .inr ⟨g, cap, cur, rfl, h2, (hb g h2 (Array.getElem?_eq_some_iff.1 h3).1).trans h3, h4⟩
/-- a map whose block and rows are as they were -/
theorem groups_kept {H : Type} {P : Program} {k base e b n : Nat} {q : IntKind} {D : DataW H} {w w' : World} (h : w.ownsGroups P k base e q b n D) (hb : w'.heap[b]? = w.heap[b]?) (hr : ∀ g, base ≤ g → g < w.heap.size → w'.heap[g]? = w.heap[g]?) : w'.ownsGroups P k base e q b n D := by
  obtain ⟨es, clock, h1, F, h3, h4, h5, h6, h7⟩ := h
  have hs : ∀ x ∈ es.toList, ∀ z, rowElem (H := H) w base e q x.val = some z → rowElem w' base e q x.val = some z := by
    intro x _ z hz
    obtain ⟨zs, ho, rfl⟩ := rowElem_inv hz
    exact rowElem_mk ⟨ownsRow_heap ho.1 hr, ho.2⟩
  obtain ⟨F2, hmap, _⟩ := F.stay hs
  refine ⟨es, clock, hb.trans h1, F2, h3, by rw [hmap]; exact h4, h5, fun x hx ys ho => ?_, h7⟩
  obtain ⟨y, hy⟩ := F.reads x hx
  obtain ⟨z, hz, _⟩ := rd_val hy
  obtain ⟨ys', ho', _⟩ := rowElem_inv hz
  rw [ho.unique ⟨ownsRow_heap ho'.1 hr, ho'.2⟩]
  exact h6 x hx ys' ho'
/-- the map holds positions up to L alone -/
def PD (L : Nat) (D : DataW Unit) : Prop := IsMap D ∧ ∀ kl zs, D.atKey kl .nil = .slice (lits .i64 zs) [] → ∀ z ∈ zs, 0 ≤ z ∧ z ≤ L
theorem lits_inj {zs zs' : List Int} (h : (lits (H := Unit) .i64 zs) = lits .i64 zs') : zs = zs' :=
  (List.map_inj_right (fun a b hab => by cases hab; rfl)).1 h
theorem PD.empty (L : Nat) : PD L (.map []) := ⟨⟨[], rfl⟩, fun kl zs h => by cases h⟩
theorem PD.put {L : Nat} {D : DataW Unit} (h : PD L D) {kl : Lit} (hk : WideAt.IsKeyLit kl) (v : Value) {zs : List Int} (hz : ∀ z ∈ zs, 0 ≤ z ∧ z ≤ L) : PD L (D.put kl (rowDatum .i64 v zs)) := by
  refine ⟨h.1.put kl _, fun kl' zs' he => ?_⟩
  by_cases e : kl' = kl
  · subst e
    rw [atKey_put_same h.1 hk] at he
    unfold rowDatum at he
    split at he
    · cases he
    · injection he with he
      rw [← lits_inj he]; exact hz
  · rw [atKey_put_other e] at he
    exact h.2 kl' zs' he
theorem PD.at {L : Nat} {D : DataW Unit} (h : PD L D) {w : World} {base : Nat} {kl : Lit} {v : Value} {zs : List Int} (hat : D.atKey kl .nil = rowDatum .i64 v zs) (ho : w.ownsInts base 3 .i64 v zs) : ∀ z ∈ zs, 0 ≤ z ∧ z ≤ L := by
  rcases ho.datum (H := Unit) with ⟨e, e2⟩ | e
  · subst e2; simp
  · exact h.2 kl zs (by rw [hat, e])
/-- the maker's map -/
def Mq (L base mbk n : Nat) (w : World) : Prop := ∃ D : DataW Unit, w.ownsGroups Try.prog 23 base 3 .i64 mbk n D ∧ PD L D
theorem Mq.kept {L base mbk n : Nat} {w w' : World} (h : Mq L base mbk n w) (hb : w'.heap[mbk]? = w.heap[mbk]?) (hr : ∀ g, base ≤ g → g < w.heap.size → w'.heap[g]? = w.heap[g]?) : Mq L base mbk n w' := by
  obtain ⟨D, h1, h2⟩ := h
  exact ⟨D, groups_kept h1 hb hr, h2⟩
theorem Mq.empty {L base mbk : Nat} {w : World} (hb : w.heap[mbk]? = some (.map #[] 0)) (hlt : mbk < base) : Mq L base mbk 0 w :=
  ⟨.map [], ⟨#[], 0, hb, ⟨by simp, stamped_empty 0, by simp⟩, Nat.le_refl _, rfl, hlt, by simp, by simp⟩, PD.empty L⟩
theorem key23 {v : Int} (h0 : 0 ≤ v) (h1 : v < 4294967296) : keyOf Try.prog 23 (.int .u32 v) = some (.int .u32 v) := keyOf_int_mk Try.underlying23 (WalkArith.wf_u32 (by omega))
/-- append of a number, where the new slice lies -/
theorem step_app94 {ops : Array Oper} {o : Oper} {a : Act} {w : World} {K : Act → World → Prop} {Q : Exit → Act → World → Prop} {E : Prop} (hg : o.guard = none) (s x : Operand)
    (ho : o.op = .call { callee := .builtin .append, args := #[s, x], argTypes := #[94, 94] })
    (base : Nat) (v : Value) (zs : List Int) (hs : a.eval s = v) (hoi : w.ownsInts base 3 .i64 v zs) (b : Nat) (z : Int) (hx : a.eval x = .slice (some ⟨b, 0, none⟩) 1 1) (hc : w.cell? ⟨b, 0, none⟩ = some (.int .i64 z)) (hwf : (Lit.int .i64 z).wf = true)
    (hl : zs.length ≤ 1099511627776) (hB : base ≤ w.heap.size)
    (hK : ∀ v' w', w'.ownsInts base 3 .i64 v' (zs ++ [z]) → w.grownBy w' v.ownBlock → (v'.ownBlock = v.ownBlock ∨ v'.ownBlock = some w.heap.size) → K (a.put o.dst v') w') :
    if Region.wanted o (yielded ops a.tmps) = true then Oper.wp Try.prog o a w K Q else E := by
  have hw : Region.wanted o (yielded ops a.tmps) = true := by simp [Region.wanted, hg]
  rw [if_pos hw]
  obtain ⟨i0, hi, hz0, hz1, hz2⟩ := info_parts Try.info3
  obtain ⟨v', w', hrun, h1, h2, h3, h4⟩ := run_append_own_at (P := Try.prog) (w := w) base 94 o.type 3 i0 (.int .i64 0) 1 8 Try.underlying94 hi hz0 hz1 hz2 rfl (by decide) v zs.length (zs.map (Value.int .i64)) hoi.1 ⟨b, 0, none⟩ 1 1 [.int .i64 z] rfl
    (fun j u hj => by
      match j, hj with
      | 0, hj => simp at hj; subst hj; simpa [Addr.add] using hc) (ints_oneCell .i64 [z]) (by unfold maxLen; omega) (by omega) hB
  unfold Oper.wp
  simp [execOp, ho, resolve, invoke, builtin, hs, hx, hrun, Result.andThen]
  exact hK v' w' (hoi.appended h1 hwf) h2 h4
end Go.Proofs.Ytpfjkappgdpfbaa
