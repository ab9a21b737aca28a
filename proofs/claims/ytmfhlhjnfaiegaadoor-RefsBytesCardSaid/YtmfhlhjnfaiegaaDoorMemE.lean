/- A region that draws its order, whose first operation is pure and may come at any time: taken first; then quiet operations ahead of a forced end. No condition. -/
import Derived.Test.YtmfhlhjnfaiegaaDoorMemD
namespace Go.Proofs.YtmfhlhjnfaiegaaDoor
open Go.RowKit
set_option linter.unusedVariables false
variable {P : Program} {ops : Array Oper} {md : Region.Mode} {C : World → Prop}
def sinkK (md : Region.Mode) (ops : Array Oper) (k n : Nat) : Bool :=
  (List.range n).all fun i => decide (i < k) || (List.range (n + 1)).any fun j => decide (i < j) && Region.waitsFor md ops j i
theorem tail_waitsK {k n : Nat} {listed : Array Bool} (hs : sinkK md ops k n = true) (hc : Region.chainB md ops n = true) (hn : n < ops.size) (inv : HeadInv md ops n listed) (hk : ∀ i, i < k → listed.getD i false = true) :
    ∀ (d i : Nat), n - i = d → i < n → listed.getD i true = false → ∀ t, n ≤ t → t ∉ Region.ready md ops listed := by
  intro d
  induction d using Nat.strongRecOn with
  | _ d ih =>
    intro i hd hi hun t ht hr
    obtain ⟨_, ot, hot, hall⟩ := mem_ready.1 hr
    have htlt : t < ops.size := (Array.getElem?_eq_some_iff.1 hot).1
    by_cases htn : t = n
    · subst htn
      have h1 := List.all_eq_true.1 hs i (List.mem_range.2 hi)
      have hik : ¬ i < k := fun e => by
        have := hk i e
        rw [getD_both hun] at this
        cases this
      rw [decide_eq_false hik, Bool.false_or] at h1
      obtain ⟨j, hj, hj2⟩ := List.any_eq_true.1 h1
      simp only [Bool.and_eq_true, decide_eq_true_eq] at hj2
      obtain ⟨oj, hoj, e, he, hb, hon⟩ := Region.waitsFor_spec hj2.2
      have hjle : j ≤ t := by have := List.mem_range.1 hj; omega
      by_cases hjt : j = t
      · subst hjt
        have : oj = ot := Option.some.inj (hoj.symm.trans hot)
        subst this
        have h2 := hall e he hb
        rw [hon, getD_both hun] at h2
        cases h2
      · cases hl : listed.getD j false with
        | true =>
          have h2 := inv.closed j oj hoj hl e he hb
          rw [hon, getD_both hun] at h2
          cases h2
        | false =>
          have hjs : j < listed.size := by rw [inv.size]; omega
          exact ih (t - j) (by omega) j rfl (by omega) (getD_in hjs hl) t (Nat.le_refl _) hr
    · have h1 := List.all_eq_true.1 hc t (List.mem_range.2 htlt)
      rw [decide_eq_false (by omega), Bool.false_or] at h1
      obtain ⟨oj, hoj, e, he, hb, hon⟩ := Region.waitsFor_spec h1
      have : oj = ot := Option.some.inj (hoj.symm.trans hot)
      subst this
      have h2 := hall e he hb
      rw [hon] at h2
      have h3 := inv.tail (t - 1) (by omega) (by omega)
      rw [getD_both h3] at h2
      cases h2
theorem getD_set_keep {listed : Array Bool} {i j : Nat} (h : listed.getD i false = true) : (listed.setIfInBounds j true).getD i false = true := by
  by_cases e : j = i
  · subst e
    have hl : j < listed.size := by
      rcases Nat.lt_or_ge j listed.size with h' | h'
      · exact h'
      · simp [Array.getElem?_eq_none h'] at h
    simp [hl]
  · rw [getD_set_ne false e]; exact h
theorem headQ_firstK {k n i : Nat} {oi : Oper} {v : Value} {L : Array Bool → Act → Prop} (hi : ops[i]? = some oi) (hsel : ∀ (j : Nat) (o : Oper) cs b, ops[j]? = some o → o.op ≠ .select cs b)
    (hs : sinkK md ops k n = true) (hc : Region.chainB md ops n = true) (hn : n < ops.size) (hin : i < n) (hdone : ∀ listed a, L listed a → ∀ j ∈ Region.ready md ops listed, n ≤ j) :
    ∀ (f : Nat) (listed : Array Bool) (a : Act), HeadInv md ops n listed → (∀ i, i < k → listed.getD i false = true) →
      (∀ j oj, ops[j]? = some oj → j ≠ i → listed.getD j true = false → (∀ e ∈ oj.after, Region.binds md e = true → e.on ≠ i) → oi.apart ops oj = true) →
      i ∈ Region.ready md ops listed → YieldsIn P ops C oi v a → headQ P md ops C n L f (listed.setIfInBounds i true) (a.put oi.dst v) → headQ P md ops C n L (f + 1) listed a := by
  intro f
  induction f with
  | zero =>
    intro listed a inv hk _ hr hy H
    have hun := (mem_ready.1 hr).1
    refine ⟨fun h => (by rw [h] at hr; cases hr), fun j hj => ?_⟩
    have hjn : j < n := Nat.lt_of_not_le fun h => tail_waitsK hs hc hn inv hk _ i rfl hin hun j h hj
    refine ⟨hjn, ?_⟩
    by_cases hji : j = i
    · subst hji; exact hy.qOp hi H
    · have := hdone _ _ H j (ready_mono hj hji)
      omega
  | succ f ih =>
    intro listed a inv hk hfree hr hy H
    have hun := (mem_ready.1 hr).1
    refine ⟨fun h => (by rw [h] at hr; cases hr), fun j hj => ?_⟩
    have hjn : j < n := Nat.lt_of_not_le fun h => tail_waitsK hs hc hn inv hk _ i rfl hin hun j h hj
    refine ⟨hjn, ?_⟩
    by_cases hji : j = i
    · subst hji; exact hy.qOp hi H
    · obtain ⟨hjun, oj, hoj, hall⟩ := mem_ready.1 hj
      have hnot : ∀ e ∈ oj.after, Region.binds md e = true → e.on ≠ i := fun e he hb heq => by
        have := hall e he hb
        rw [heq, unlisted_of hun] at this
        cases this
      have h2 := qOp_put hoj (hfree j oj hoj hji hjun hnot) (fun cs b => hsel i oi cs b hi) (fun cs b => hsel j oj cs b hoj) hy (H.2 j (ready_mono hj hji)).2
      refine qOp_mono (fun a' h3 => ih (listed.setIfInBounds j true) a' (inv.set hj hjn) (fun q hq => getD_set_keep (hk q hq)) (fun k ok hk hki hkun hno => ?_) (ready_mono hr (Ne.symm hji)) h3.1 ?_) h2
      · refine hfree k ok hk hki ?_ hno
        by_cases hjk : j = k
        · subst hjk; exact hjun
        · rwa [getD_set_ne true hjk] at hkun
      · rw [Array.setIfInBounds_comm _ _ hji]
        exact h3.2
theorem headQ_lexK {k0 n g : Nat} {Lq : Act → Prop} (hsel : Region.noSelect ops = true) (hs : sinkK md ops k0 n = true) (hc : Region.chainB md ops n = true) (hn : n < ops.size) :
    ∀ (l : List Oper) (k : Nat) (listed : Array Bool) (a : Act), (∀ j, j < l.length → l[j]? = ops[k + j]?) → k + l.length = n → HeadInv md ops n listed → (∀ i, i < k0 → listed.getD i false = true) →
    Region.lexHead md ops g l.length k listed = true → wpQuiet P ops C Lq l a → headQ P md ops C n (fun listed' a' => Region.seqB md ops g n listed' = true ∧ Lq a') l.length listed a
  | [], k, listed, a, _, hk, _, _, hB, h => by
    obtain rfl : k = n := by simpa using hk
    exact ⟨by simpa [Region.lexHead] using hB, h⟩
  | o :: l, k, listed, a, hl, hk, inv, hkk, hB, h => by
    have h0 : ops[k]? = some o := by simpa using (hl 0 (by simp)).symm
    rw [List.length_cons] at hk
    simp only [List.length_cons, Region.lexHead, Bool.and_eq_true] at hB
    have hr : k ∈ Region.ready md ops listed := by simpa using hB.1.1
    have hq : qOp P ops C k (wpQuiet P ops C Lq l) a := by unfold qOp; simp only [h0]; exact h
    obtain ⟨v, hy, hK⟩ := yieldsIn_of_qOp h0 hq
    refine headQ_firstK h0 (Region.noSelect_spec hsel) hs hc hn (by omega) (fun listed' a' hL => seqB_ready hL.1) l.length listed a inv hkk (Region.free_spec h0 hB.1.2) hr hy ?_
    refine headQ_lexK hsel hs hc hn l (k + 1) _ _ (fun j hj => ?_) (by omega) (inv.set hr (by omega)) (fun q hq => getD_set_keep (hkk q hq)) hB.2 hK
    have := hl (j + 1) (by simp; omega)
    simpa [Nat.add_assoc, Nat.add_comm 1 j] using this
def lexTail1 (md : Region.Mode) (ops : Array Oper) (n : Nat) : Bool :=
  Region.noSelect ops && decide (n < ops.size) && decide (0 < n) && sinkK md ops 1 n && Region.chainB md ops n && (Region.ready md ops (Array.replicate ops.size false)).contains 0 && Region.free md ops (Array.replicate ops.size false) 0 && Region.lexHead md ops (ops.size - n) (n - 1) 1 ((Array.replicate ops.size false).setIfInBounds 0 true)
theorem wp_region_quiet_tail1 {id : Nat} {Q : Exit → Act → World → Prop} {a : Act} {w : World} {l : List Oper} (n : Nat) (hC : C w.drew) (hm : P.follows .mixedOrders = true) (hB : lexTail1 .any l.toArray n = true) (o0 : Oper) (h0 : l[0]? = some o0) (v0 : Value)
    (hQ : ∀ c a w, Q (.panic c) (a.put o0.dst v0) w → Q (.panic c) a w) (hy : Yields P l.toArray o0 v0 a)
    (h : wpQuiet P l.toArray C (fun a' => ∀ w', C w' → wpList P l.toArray Q (l.drop n) a' w') ((l.take n).drop 1) (a.put o0.dst v0)) : (Code.region id l.toArray true).wp P Q a w := by
  simp only [lexTail1, Bool.and_eq_true, decide_eq_true_eq] at hB
  obtain ⟨⟨⟨⟨⟨⟨⟨hsel, hn⟩, hn0⟩, hs⟩, hc⟩, hr0⟩, hf0⟩, hlex⟩ := hB
  have hn' : n < l.length := by simpa using hn
  have htl : ((l.take n).drop 1).length = n - 1 := by simp; omega
  have hdl : (l.drop n).length = l.toArray.size - n := by simp
  have inv0 : HeadInv .any l.toArray n (Array.replicate l.toArray.size false) :=
    ⟨by simp, fun j oj _ hl => (by rw [getD_replicate_false] at hl; cases hl), fun t _ ht => getD_in (by simpa using ht) (getD_replicate_false _ _)⟩
  have inv1 := inv0.set (i := 0) (by simpa using hr0) hn0
  have hk1 : ∀ i, i < 1 → ((Array.replicate l.toArray.size false).setIfInBounds 0 true).getD i false = true := fun i hi => by
    obtain rfl : i = 0 := by omega
    have : 0 < l.toArray.size := by omega
    simp [this] at this ⊢
    omega
  have H := headQ_lexK (md := .any) (g := l.toArray.size - n) hsel hs hc hn ((l.take n).drop 1) 1 _ (a.put o0.dst v0) (fun j hj => by
    rw [htl] at hj
    rw [List.getElem?_drop, List.getElem?_take, if_pos (by omega)]
    simp) (by rw [htl]; omega) inv1 hk1 (by rw [htl]; exact hlex) h
  refine wp_region_any hm ?_
  have K := any_headQ (Q := Q) (g := l.toArray.size - n) (fun listed a' w' hw' hL => by
    have := wpAny_of_seq (md := .any) (Q' := Q) (l.drop n) n listed a' w' (fun j => by simp [List.getElem?_drop]) (by rw [hdl]; exact hL.1) (hL.2 w' hw')
    rwa [hdl] at this) _ _ _ _ hC H
  rw [htl] at K
  have e : l.toArray.size = (n - 1 + (l.toArray.size - n)) + 1 := by omega
  have h00 : l.toArray[0]? = some o0 := by simpa using h0
  have T := wpAny_take (md := .any) (P := P) (ops := l.toArray) (Q := Q) (i := 0) (oi := o0) (v := v0) (fuel := n - 1 + (l.toArray.size - n)) (listed := Array.replicate l.toArray.size false) (a := a) (w := w.drew) h00 hsel hf0 hr0 hQ hy K
  rwa [← e] at T
end Go.Proofs.YtmfhlhjnfaiegaaDoor
