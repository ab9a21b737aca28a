/- Quiet operations that read: a value in every world of the class. No condition.
   A region that draws its order: quiet operations, then one call, then moves of what it gives back, in any order. No condition.
   A region that draws its order: still operations and one call among them, then a forced end. No condition.
   A region that draws its order: still operations as they come, the others one by one. One walk in one order serves every order. No condition.
   A tag on memory; whether it may not be; object.EncodeTag: encT. Conditions: twenty bytes, texts of at most a million bytes.
   object.DecodeTag: decT. Conditions: at most 12000 bytes, or more than 16384 and at most 2^30; what the library's variables hold.
   The reference's line end, text, twice. Conditions: a text shorter than 2^30; twenty bytes each, fewer than 256 names.
   The reference's EncodeTag: encT. Conditions: twenty bytes, texts of at most a million bytes.
   The reference's EncodeCommit: encC. Conditions: twenty bytes each, fewer than 256 parents, texts of at most a million bytes.
   The reference's Date: dateI. Conditions: twenty bytes, a committer of at most a million bytes.
   The law's tag: a tag as the document's. Condition: twenty bytes.
   The law's sameCommit of a commit and itself: true. Conditions: twenty bytes each, fewer than 256 parents.
   The law's Commit: a commit as the document's. Conditions: twenty bytes each, fewer than 256 parents.
   A struct is equal to itself: tags, entries (the program's, the reference's). No condition but twenty bytes.
   Arguments that are commits and tags, as the row's frame hands them over. No condition. -/
import Derived.Test.YtcedfapcpmedfaaGreatDoorKa
import Derived.Test.YtcedfapcpmedfaaGreatDoorKh
import Derived.Test.YtcedfapcpmedfaaGreatDoorKe
import Derived.Test.YtcedfapcpmedfaaGreatDoorKg
import Derived.Deep.Slices
import Derived.OpenShut
namespace Go.Proofs.YtcedfapcpmedfaaGreatDoor
section
open Go.RowKit
set_option linter.unusedVariables false
variable {P : Program} {ops : Array Oper} {C : World → Prop}
theorem wpQuiet_run {rest : List Oper} {o : Oper} {Q : Act → Prop} {l : List Value} {df : List Deferred} (d : Nat) (hd : o.dst = some d) (hw : Region.wanted o (yielded ops l.toArray) = true) (v : Value) (hr : ∀ w, C w → (execOp (Act.eval ⟨l.toArray, df⟩) o).run P w = .ok (.value v) w)
    (h : wpQuiet P ops C Q rest ⟨(l.set d v).toArray, df⟩) : wpQuiet P ops C Q (o :: rest) ⟨l.toArray, df⟩ := by
  refine wpQuiet_step fun K hK => ?_
  rw [if_pos (by rw [show (⟨l.toArray, df⟩ : Act).tmps = l.toArray from rfl, hw])]
  refine ⟨v, fun w hC => ?_, ?_⟩
  · unfold Oper.quietAt
    rw [hr w hC]
    exact ⟨rfl, rfl⟩
  · have : (Act.put ⟨l.toArray, df⟩ o.dst v) = ⟨(l.set d v).toArray, df⟩ := by
      simp [Act.put, hd]
    rw [this]
    exact hK _ h
theorem wpQuiet_conv {rest : List Oper} {o : Oper} {Q : Act → Prop} {l : List Value} {df : List Deferred} (t u : TypeId) (x : Operand) (ho : o.op = .convert t u x) (v : Value) (hr : ∀ w, C w → (convert t u (Act.eval ⟨l.toArray, df⟩ x)).run P w = .ok v w)
    (d : Nat) (hd : o.dst = some d) (hw : Region.wanted o (yielded ops l.toArray) = true) (h : wpQuiet P ops C Q rest ⟨(l.set d v).toArray, df⟩) : wpQuiet P ops C Q (o :: rest) ⟨l.toArray, df⟩ :=
  wpQuiet_run d hd hw v (fun w hC => by
    unfold execOp
    simp only [ho, Sem.run_bind, hr w hC, Result.andThen_ok, Sem.run_pure]) h
theorem wpQuiet_sliceH {rest : List Oper} {o : Oper} {Q : Act → Prop} {l : List Value} {df : List Deferred} (ty : TypeId) (x b : Operand) (ho : o.op = .slice ty x none (some b) none) (hT : P.underlying ty = some (.slice (P.elem ty))) (A : Option Addr) (n c : Nat) (hx : Act.eval ⟨l.toArray, df⟩ x = .slice A n c) (v : Value)
    (hr : ∀ w, (Instr.slice ty (.slice A n c) none (some (Act.eval ⟨l.toArray, df⟩ b)) none).run P w = .ok v w) (d : Nat) (hd : o.dst = some d) (hw : Region.wanted o (yielded ops l.toArray) = true)
    (h : wpQuiet P ops C Q rest ⟨(l.set d v).toArray, df⟩) : wpQuiet P ops C Q (o :: rest) ⟨l.toArray, df⟩ :=
  wpQuiet_run d hd hw v (fun w _ => by
    unfold execOp
    simp only [ho, hx, Option.map_some, Option.map_none, Sem.run_bind, run_sliceAt_slice (h := hT), hr w, Result.andThen_ok, Sem.run_pure]) h
end
section
open Go.RowKit
set_option linter.unusedVariables false
variable {P : Program} {ops : Array Oper} {md : Region.Mode} {C : World → Prop}
def afterB (md : Region.Mode) (ops : Array Oper) (n : Nat) : Bool :=
  (List.range ops.size).all fun t => decide (t ≤ n) || (List.range t).any fun s => decide (n ≤ s) && Region.waitsFor md ops t s
theorem tail_waitsC {n : Nat} {listed : Array Bool} (hs : Region.sinkB md ops n = true) (hc : afterB md ops n = true) (hn : n < ops.size) (inv : HeadInv md ops n listed) :
    ∀ (d i : Nat), n - i = d → i < n → listed.getD i true = false → ∀ t, n ≤ t → t ∉ Region.ready md ops listed := by
  intro d
  induction d using Nat.strongRecOn with
  | _ d ih =>
    intro i hd hi hun t ht hr
    obtain ⟨_, ot, hot, hall⟩ := mem_ready.1 hr
    have htlt : t < ops.size := (Array.getElem?_eq_some_iff.1 hot).1
    by_cases htn : t = n
    · subst htn
      have h1 := List.all_eq_true.1 hs i (List.mem_range.2 hi)
      obtain ⟨j, hj, hj2⟩ := List.any_eq_true.1 h1
      simp only [Bool.and_eq_true, decide_eq_true_eq] at hj2
      obtain ⟨oj, hoj, e, he, hb, hon⟩ := Region.waitsFor_spec hj2.2
      have hjle : j ≤ t := by have := List.mem_range.1 hj; omega
      by_cases hjt : j = t
      · subst hjt
        obtain rfl : oj = ot := Option.some.inj (hoj.symm.trans hot)
        have h2 := hall e he hb
        rw [hon, unlisted_of hun] at h2
        cases h2
      · cases hl : listed.getD j false with
        | true =>
          have h2 := inv.closed j oj hoj hl e he hb
          rw [hon, unlisted_of hun] at h2
          cases h2
        | false =>
          have hjs : j < listed.size := by rw [inv.size]; omega
          exact ih (t - j) (by omega) j rfl (by omega) (getD_in hjs hl) t (Nat.le_refl _) hr
    · have h1 := List.all_eq_true.1 hc t (List.mem_range.2 htlt)
      simp only [Bool.or_eq_true, decide_eq_true_eq] at h1
      rcases h1 with h1 | h1
      · omega
      · obtain ⟨s, hs1, hs2⟩ := List.any_eq_true.1 h1
        simp only [Bool.and_eq_true, decide_eq_true_eq] at hs2
        obtain ⟨o', ho', e, he, hb, hon⟩ := Region.waitsFor_spec hs2.2
        obtain rfl : o' = ot := Option.some.inj (ho'.symm.trans hot)
        have h2 := hall e he hb
        have hs3 := List.mem_range.1 hs1
        rw [hon, unlisted_of (inv.tail s hs2.1 (by omega))] at h2
        cases h2
theorem headQ_firstC {n i : Nat} {oi : Oper} {v : Value} {L : Array Bool → Act → Prop} (hi : ops[i]? = some oi) (hsel : ∀ (j : Nat) (o : Oper) cs b, ops[j]? = some o → o.op ≠ .select cs b)
    (hs : Region.sinkB md ops n = true) (hc : afterB md ops n = true) (hn : n < ops.size) (hin : i < n) (hdone : ∀ listed a, L listed a → ∀ j ∈ Region.ready md ops listed, n ≤ j) :
    ∀ (f : Nat) (listed : Array Bool) (a : Act), HeadInv md ops n listed →
      (∀ j oj, ops[j]? = some oj → j ≠ i → listed.getD j true = false → (∀ e ∈ oj.after, Region.binds md e = true → e.on ≠ i) → oi.apart ops oj = true) →
      i ∈ Region.ready md ops listed → YieldsIn P ops C oi v a → headQ P md ops C n L f (listed.setIfInBounds i true) (a.put oi.dst v) → headQ P md ops C n L (f + 1) listed a := by
  intro f
  induction f with
  | zero =>
    intro listed a inv _ hr hy H
    have hun := (mem_ready.1 hr).1
    refine ⟨fun h => (by rw [h] at hr; cases hr), fun j hj => ?_⟩
    have hjn : j < n := Nat.lt_of_not_le fun h => tail_waitsC hs hc hn inv _ i rfl hin hun j h hj
    refine ⟨hjn, ?_⟩
    by_cases hji : j = i
    · subst hji; exact hy.qOp hi H
    · have := hdone _ _ H j (ready_mono hj hji)
      omega
  | succ f ih =>
    intro listed a inv hfree hr hy H
    have hun := (mem_ready.1 hr).1
    refine ⟨fun h => (by rw [h] at hr; cases hr), fun j hj => ?_⟩
    have hjn : j < n := Nat.lt_of_not_le fun h => tail_waitsC hs hc hn inv _ i rfl hin hun j h hj
    refine ⟨hjn, ?_⟩
    by_cases hji : j = i
    · subst hji; exact hy.qOp hi H
    · obtain ⟨hjun, oj, hoj, hall⟩ := mem_ready.1 hj
      have hnot : ∀ e ∈ oj.after, Region.binds md e = true → e.on ≠ i := fun e he hb heq => by
        have := hall e he hb
        rw [heq, unlisted_of hun] at this
        cases this
      have h2 := qOp_put hoj (hfree j oj hoj hji hjun hnot) (fun cs b => hsel i oi cs b hi) (fun cs b => hsel j oj cs b hoj) hy (H.2 j (ready_mono hj hji)).2
      refine qOp_mono (fun a' h3 => ih (listed.setIfInBounds j true) a' (inv.set hj hjn) (fun k ok hk hki hkun hno => ?_) (ready_mono hr (Ne.symm hji)) h3.1 ?_) h2
      · refine hfree k ok hk hki ?_ hno
        by_cases hjk : j = k
        · subst hjk; exact hjun
        · rwa [getD_set_ne true hjk] at hkun
      · rw [Array.setIfInBounds_comm _ _ hji]
        exact h3.2
def lexHeadC (md : Region.Mode) (ops : Array Oper) (g : Nat) : Nat → Nat → Array Bool → Bool
  | 0, k, listed => decide (Region.ready md ops listed = [k]) && Region.lexFrom md ops g (k + 1) (listed.setIfInBounds k true)
  | f + 1, k, listed => (Region.ready md ops listed).contains k && Region.free md ops listed k && lexHeadC md ops g f (k + 1) (listed.setIfInBounds k true)
theorem headQ_lexC {n g : Nat} {Lq : Act → Prop} (hsel : Region.noSelect ops = true) (hs : Region.sinkB md ops n = true) (hc : afterB md ops n = true) (hn : n < ops.size) :
    ∀ (l : List Oper) (k : Nat) (listed : Array Bool) (a : Act), (∀ j, j < l.length → l[j]? = ops[k + j]?) → k + l.length = n → HeadInv md ops n listed →
    lexHeadC md ops g l.length k listed = true → wpQuiet P ops C Lq l a → headQ P md ops C n (fun listed' a' => (Region.ready md ops listed' = [n] ∧ Region.lexFrom md ops g (n + 1) (listed'.setIfInBounds n true) = true) ∧ Lq a') l.length listed a
  | [], k, listed, a, _, hk, _, hB, h => by
    obtain rfl : k = n := by simpa using hk
    exact ⟨by simpa [lexHeadC] using hB, h⟩
  | o :: l, k, listed, a, hl, hk, inv, hB, h => by
    have h0 : ops[k]? = some o := by simpa using (hl 0 (by simp)).symm
    rw [List.length_cons] at hk
    simp only [List.length_cons, lexHeadC, Bool.and_eq_true] at hB
    have hr : k ∈ Region.ready md ops listed := by simpa using hB.1.1
    have hq : qOp P ops C k (wpQuiet P ops C Lq l) a := by unfold qOp; simp only [h0]; exact h
    obtain ⟨v, hy, hK⟩ := yieldsIn_of_qOp h0 hq
    refine headQ_firstC h0 (Region.noSelect_spec hsel) hs hc hn (by omega) (fun listed' a' hL j hj => by rw [hL.1.1] at hj; have : j = n := by simpa using hj
                                                                                                         omega) l.length listed a inv (Region.free_spec h0 hB.1.2) hr hy ?_
    refine headQ_lexC hsel hs hc hn l (k + 1) _ _ (fun j hj => ?_) (by omega) (inv.set hr (by omega)) hB.2 hK
    have := hl (j + 1) (by simp; omega)
    simpa [Nat.add_assoc, Nat.add_comm 1 j] using this
def lexCallB (md : Region.Mode) (ops : Array Oper) (n : Nat) : Bool :=
  Region.noSelect ops && decide (n < ops.size) && Region.sinkB md ops n && afterB md ops n && lexHeadC md ops (ops.size - (n + 1)) n 0 (Array.replicate ops.size false)
theorem wp_region_quiet_call {id : Nat} {Q : Exit → Act → World → Prop} {a : Act} {w : World} {l : List Oper} (n : Nat) (hC : C w.drew) (hm : P.follows .mixedOrders = true) (hB : lexCallB .any l.toArray n = true) (oc : Oper) (hoc : l[n]? = some oc) (f : FuncId)
    (h : wpQuiet P l.toArray C (fun a' => Region.wanted oc (yielded l.toArray a'.tmps) = true ∧ ∃ args, (∀ w, (execOp (Act.eval a') oc).run P w = .ok (.enter f args) w) ∧ ∀ w', C w' → Calls P f args w' fun e w'' => ∃ v, e = .returned v ∧ wpQuiet P l.toArray (fun x => x = w'') (fun a3 => Q .normal a3 w'') (l.drop (n + 1)) (a'.put oc.dst v)) (l.take n) a) : (Code.region id l.toArray true).wp P Q a w := by
  simp only [lexCallB, Bool.and_eq_true, decide_eq_true_eq] at hB
  obtain ⟨⟨⟨⟨hsel, hn⟩, hs⟩, hc⟩, hlex⟩ := hB
  have hn' : n < l.length := by simpa using hn
  have htl : (l.take n).length = n := by simp; omega
  have hdl : (l.drop (n + 1)).length = l.toArray.size - (n + 1) := by simp
  have inv0 : HeadInv .any l.toArray n (Array.replicate l.toArray.size false) :=
    ⟨by simp, fun j oj _ hl => (by rw [getD_replicate_false] at hl; cases hl), fun t _ ht => getD_in (by simpa using ht) (getD_replicate_false _ _)⟩
  have H := headQ_lexC (md := .any) (g := l.toArray.size - (n + 1)) hsel hs hc hn (l.take n) 0 _ a (fun j hj => by
    rw [htl] at hj
    simp [hj]) (by simpa using htl) inv0 (by rw [htl]; exact hlex) h
  refine wp_region_any hm ?_
  have := any_headQ (Q := Q) (g := (l.toArray.size - (n + 1)) + 1) (fun listed a' w' hw' hL => by
    obtain ⟨⟨hr1, hr2⟩, hwt, args, hrun, hcall⟩ := hL
    refine ⟨fun h1 => (by rw [hr1] at h1; cases h1), fun i hi => ?_⟩
    rw [hr1] at hi
    obtain rfl : i = n := by simpa using hi
    have hoc' : l.toArray[i]? = some oc := by simpa using hoc
    unfold wpOp
    simp only [hoc', hwt, if_true]
    left
    unfold Oper.wp
    rw [hrun w', Oper.upon_enter]
    refine (hcall w' hw').mono ?_
    rintro e w'' ⟨v, rfl, hq⟩
    have hL2 := wpAnyQ_lex (C := fun x => x = w'') (md := .any) hsel (l.drop (i + 1)) (i + 1) (listed.setIfInBounds i true) _ (fun j => by simp [List.getElem?_drop]) (by rw [hdl]; exact hr2) hq
    rw [hdl] at hL2
    exact wpAny_of_quiet (C := fun x => x = w'') (Q := fun a3 => Q .normal a3 w'') (Q' := Q) (fun a3 w3 hw3 h3 => by rw [hw3]; exact h3) _ _ _ _ rfl hL2) _ _ _ _ hC H
  rw [htl, show n + (l.toArray.size - (n + 1) + 1) = l.toArray.size by omega] at this
  exact this
end
section
open Go.RowKit
set_option linter.unusedVariables false
variable {P : Program} {ops : Array Oper} {md : Region.Mode} {C : World → Prop} {R : Value → World → Prop}
/-- in every world of the class the operation gives this value and leaves the world -/
def Yv (P : Program) (ops : Array Oper) (C : World → Prop) (o : Oper) (v : Value) (a : Act) : Prop :=
  Region.wanted o (yielded ops a.tmps) = true ∧ ∀ w, C w → (execOp (Act.eval a) o).run P w = .ok (.value v) w
/-- whatever order the head takes, still operations alone come up in it, and the call -/
def headV (P : Program) (md : Region.Mode) (ops : Array Oper) (C : World → Prop) (R : Value → World → Prop) (c : Nat) (fn : FuncId) (n : Nat) (L : Array Bool → Act → Option Value → Prop) : Nat → Array Bool → Act → Option Value → Prop
  | 0, listed, a, b => L listed a b
  | f + 1, listed, a, b => Region.ready md ops listed ≠ [] ∧ ∀ i ∈ Region.ready md ops listed, i < n ∧ ∃ oi, ops[i]? = some oi ∧
      ((i ≠ c ∧ ∃ v, Yv P ops C oi v a ∧ headV P md ops C R c fn n L f (listed.setIfInBounds i true) (a.put oi.dst v) b) ∨
        (i = c ∧ Region.wanted oi (yielded ops a.tmps) = true ∧ ∃ args, (∀ w, (execOp (Act.eval a) oi).run P w = .ok (.enter fn args) w) ∧ (∀ w, C w → Calls P fn args w fun e w'' => ∃ v, e = .returned v ∧ C w'' ∧ R v w'') ∧
          ∀ v, headV P md ops C R c fn n L f (listed.setIfInBounds i true) (a.put oi.dst v) (some v)))
theorem any_headV {c n g : Nat} {fn : FuncId} {L : Array Bool → Act → Option Value → Prop} {Q : Exit → Act → World → Prop} (hL : ∀ listed a b w, C w → (∀ v, b = some v → R v w) → L listed a b → wpAny P md ops Q g listed a w) :
    ∀ (f : Nat) (listed : Array Bool) (a : Act) (b : Option Value) (w : World), C w → (∀ v, b = some v → R v w) → headV P md ops C R c fn n L f listed a b → wpAny P md ops Q (f + g) listed a w
  | 0, listed, a, b, w, hw, hb, h => by rw [Nat.zero_add]; exact hL _ _ _ _ hw hb h
  | f + 1, listed, a, b, w, hw, hb, h => by
    have e : f + 1 + g = (f + g) + 1 := by omega
    rw [e]
    refine ⟨fun h0 => absurd h0 h.1, fun i hi => ?_⟩
    obtain ⟨_, oi, hoi, h2⟩ := h.2 i hi
    unfold wpOp
    simp only [hoi]
    rcases h2 with ⟨_, v, ⟨hwt, hr⟩, hn⟩ | ⟨_, hwt, args, hr, hc, hn⟩
    · simp only [hwt, if_true]
      left
      unfold Oper.wp
      rw [hr w hw, Oper.upon_value]
      exact any_headV hL f _ _ b w hw hb hn
    · simp only [hwt, if_true]
      left
      unfold Oper.wp
      rw [hr w, Oper.upon_enter]
      refine (hc w hw).mono ?_
      rintro e w'' ⟨v, rfl, h1, h2⟩
      exact any_headV hL f _ _ (some v) w'' h1 (fun u hu => by obtain rfl := Option.some.inj hu; exact h2) (hn v)
theorem headV_first {c n i : Nat} {fn : FuncId} {oi : Oper} {v : Value} {L : Array Bool → Act → Option Value → Prop} (hi : ops[i]? = some oi) (hic : i ≠ c) (hsel : ∀ (j : Nat) (o : Oper) cs b, ops[j]? = some o → o.op ≠ .select cs b)
    (hs : Region.sinkB md ops n = true) (hc : afterB md ops n = true) (hn : n < ops.size) (hin : i < n) (hdone : ∀ listed a b, L listed a b → ∀ j ∈ Region.ready md ops listed, n ≤ j) :
    ∀ (f : Nat) (listed : Array Bool) (a : Act) (b : Option Value), HeadInv md ops n listed →
      (∀ j oj, ops[j]? = some oj → j ≠ i → listed.getD j true = false → (∀ e ∈ oj.after, Region.binds md e = true → e.on ≠ i) → oi.apart ops oj = true) →
      i ∈ Region.ready md ops listed → Yv P ops C oi v a → headV P md ops C R c fn n L f (listed.setIfInBounds i true) (a.put oi.dst v) b → headV P md ops C R c fn n L (f + 1) listed a b := by
  intro f
  induction f with
  | zero =>
    intro listed a b inv _ hr hy H
    have hun := (mem_ready.1 hr).1
    refine ⟨fun h => (by rw [h] at hr; cases hr), fun j hj => ?_⟩
    have hjn : j < n := Nat.lt_of_not_le fun h => tail_waitsC hs hc hn inv _ i rfl hin hun j h hj
    refine ⟨hjn, ?_⟩
    by_cases hji : j = i
    · subst hji; exact ⟨oi, hi, .inl ⟨hic, v, hy, H⟩⟩
    · have := hdone _ _ _ H j (ready_mono hj hji)
      omega
  | succ f ih =>
    intro listed a b inv hfree hr hy H
    have hun := (mem_ready.1 hr).1
    refine ⟨fun h => (by rw [h] at hr; cases hr), fun j hj => ?_⟩
    have hjn : j < n := Nat.lt_of_not_le fun h => tail_waitsC hs hc hn inv _ i rfl hin hun j h hj
    refine ⟨hjn, ?_⟩
    by_cases hji : j = i
    · subst hji; exact ⟨oi, hi, .inl ⟨hic, v, hy, H⟩⟩
    · obtain ⟨hjun, oj, hoj, hall⟩ := mem_ready.1 hj
      have hnot : ∀ e ∈ oj.after, Region.binds md e = true → e.on ≠ i := fun e he hb heq => by
        have := hall e he hb
        rw [heq, unlisted_of hun] at this
        cases this
      obtain ⟨h1, h2, h3⟩ := Oper.apart_spec (hfree j oj hoj hji hjun hnot)
      have hsi : ∀ cs b, oi.op ≠ .select cs b := fun cs b => hsel i oi cs b hi
      have hsj : ∀ cs b, oj.op ≠ .select cs b := fun cs b => hsel j oj cs b hoj
      have keep : ∀ u, Yv P ops C oi v (a.put oj.dst u) := fun u => by
        refine ⟨?_, fun w hw => ?_⟩
        · rw [wanted_put oi a oj.dst u h3]; exact hy.1
        · rw [execOp_put oi hsi a oj.dst u h3]; exact hy.2 w hw
      have hfree' : ∀ k ok, ops[k]? = some ok → k ≠ i → (listed.setIfInBounds j true).getD k true = false → (∀ e ∈ ok.after, Region.binds md e = true → e.on ≠ i) → oi.apart ops ok = true := fun k ok hk hki hkun hno => by
        refine hfree k ok hk hki ?_ hno
        by_cases hjk : j = k
        · subst hjk; exact hjun
        · rwa [getD_set_ne true hjk] at hkun
      obtain ⟨_, o2, ho2, h4⟩ := H.2 j (ready_mono hj hji)
      obtain rfl : o2 = oj := Option.some.inj (ho2.symm.trans hoj)
      refine ⟨o2, hoj, ?_⟩
      rcases h4 with ⟨hjc, u, ⟨hwt, hru⟩, hnx⟩ | ⟨hjc, hwt, args, hru, hcl, hnx⟩
      · rw [wanted_put o2 a oi.dst v h1] at hwt
        refine .inl ⟨hjc, u, ⟨hwt, fun w hw => ?_⟩, ?_⟩
        · have := hru w hw
          rwa [execOp_put o2 hsj a oi.dst v h1] at this
        · refine ih (listed.setIfInBounds j true) (a.put o2.dst u) b (inv.set hj hjn) hfree' (ready_mono hr (Ne.symm hji)) (keep u) ?_
          rw [Array.setIfInBounds_comm _ _ hji, ← Act.put_comm a v u h2]
          exact hnx
      · rw [wanted_put o2 a oi.dst v h1] at hwt
        refine .inr ⟨hjc, hwt, args, fun w => ?_, hcl, fun u => ?_⟩
        · have := hru w
          rwa [execOp_put o2 hsj a oi.dst v h1] at this
        · refine ih (listed.setIfInBounds j true) (a.put o2.dst u) (some u) (inv.set hj hjn) hfree' (ready_mono hr (Ne.symm hji)) (keep u) ?_
          rw [Array.setIfInBounds_comm _ _ hji, ← Act.put_comm a v u h2]
          exact hnx u
def lexV (md : Region.Mode) (ops : Array Oper) (g n c : Nat) : List Nat → Array Bool → Bool
  | [], listed => decide (Region.ready md ops listed = [c]) && Region.seqB md ops g n (listed.setIfInBounds c true)
  | i :: is, listed => decide (i ≠ c) && decide (i < n) && (Region.ready md ops listed).contains i && Region.free md ops listed i && lexV md ops g n c is (listed.setIfInBounds i true)
/-- the still operations of the head, in an order that may be taken -/
def wpV (P : Program) (ops : Array Oper) (C : World → Prop) (K : Act → Prop) : List Nat → Act → Prop
  | [], a => K a
  | i :: is, a => ∃ o v, ops[i]? = some o ∧ Yv P ops C o v a ∧ wpV P ops C K is (a.put o.dst v)
theorem headV_lex {c n g : Nat} {fn : FuncId} {oc : Oper} {T : Value → Act → Prop} (hoc : ops[c]? = some oc) (hcn : c < n) (hsel : Region.noSelect ops = true) (hs : Region.sinkB md ops n = true) (hc : afterB md ops n = true) (hn : n < ops.size) :
    ∀ (is : List Nat) (listed : Array Bool) (a : Act), HeadInv md ops n listed → lexV md ops g n c is listed = true →
    wpV P ops C (fun a' => Region.wanted oc (yielded ops a'.tmps) = true ∧ ∃ args, (∀ w, (execOp (Act.eval a') oc).run P w = .ok (.enter fn args) w) ∧ (∀ w, C w → Calls P fn args w fun e w'' => ∃ v, e = .returned v ∧ C w'' ∧ R v w'') ∧ ∀ v, T v (a'.put oc.dst v)) is a →
    headV P md ops C R c fn n (fun listed' a' b' => Region.seqB md ops g n listed' = true ∧ ∃ v, b' = some v ∧ T v a') (is.length + 1) listed a none
  | [], listed, a, inv, hB, h => by
    simp only [lexV, Bool.and_eq_true, decide_eq_true_eq] at hB
    obtain ⟨hwt, args, hr, hcl, hT⟩ := h
    refine ⟨fun h0 => (by rw [hB.1] at h0; cases h0), fun i hi => ?_⟩
    rw [hB.1] at hi
    obtain rfl : i = c := by simpa using hi
    exact ⟨hcn, oc, hoc, .inr ⟨rfl, hwt, args, hr, hcl, fun v => ⟨hB.2, v, rfl, hT v⟩⟩⟩
  | i :: is, listed, a, inv, hB, h => by
    simp only [lexV, Bool.and_eq_true, decide_eq_true_eq] at hB
    obtain ⟨⟨⟨⟨hic, hin⟩, hr⟩, hf⟩, hB'⟩ := hB
    have hr' : i ∈ Region.ready md ops listed := by simpa using hr
    obtain ⟨o, v, ho, hy, hK⟩ := h
    exact headV_first ho hic (Region.noSelect_spec hsel) hs hc hn hin (fun listed' a' b' hL => seqB_ready hL.1) (is.length + 1) listed a none inv (Region.free_spec ho hf) hr' hy
      (headV_lex hoc hcn hsel hs hc hn is _ _ (inv.set hr' hin) hB' hK)
def loudB (md : Region.Mode) (ops : Array Oper) (c n : Nat) (is : List Nat) : Bool :=
  Region.noSelect ops && decide (n < ops.size) && decide (c < n) && decide (is.length + 1 = n) && Region.sinkB md ops n && afterB md ops n && lexV md ops (ops.size - n) n c is (Array.replicate ops.size false)
theorem wp_region_loud {id : Nat} {Q : Exit → Act → World → Prop} {a : Act} {w : World} {l : List Oper} (c n : Nat) (is : List Nat) (hC : C w.drew) (hm : P.follows .mixedOrders = true) (hB : loudB .any l.toArray c n is = true) (oc : Oper) (hoc : l[c]? = some oc) (fn : FuncId)
    (h : wpV P l.toArray C (fun a' => Region.wanted oc (yielded l.toArray a'.tmps) = true ∧ ∃ args, (∀ w, (execOp (Act.eval a') oc).run P w = .ok (.enter fn args) w) ∧ (∀ w, C w → Calls P fn args w fun e w'' => ∃ v, e = .returned v ∧ C w'' ∧ R v w'') ∧
      ∀ v, ∀ w', C w' → R v w' → wpList P l.toArray Q (l.drop n) (a'.put oc.dst v) w') is a) : (Code.region id l.toArray true).wp P Q a w := by
  simp only [loudB, Bool.and_eq_true, decide_eq_true_eq] at hB
  obtain ⟨⟨⟨⟨⟨⟨hsel, hn⟩, hcn⟩, hil⟩, hs⟩, hc⟩, hlex⟩ := hB
  have hdl : (l.drop n).length = l.toArray.size - n := by simp
  have inv0 : HeadInv .any l.toArray n (Array.replicate l.toArray.size false) :=
    ⟨by simp, fun j oj _ hl => (by rw [getD_replicate_false] at hl; cases hl), fun t _ ht => getD_in (by simpa using ht) (getD_replicate_false _ _)⟩
  have H := headV_lex (R := R) (fn := fn) (T := fun v a' => ∀ w', C w' → R v w' → wpList P l.toArray Q (l.drop n) a' w') (by simpa using hoc) hcn hsel hs hc hn is _ a inv0 hlex h
  refine wp_region_any hm ?_
  have K := any_headV (Q := Q) (g := l.toArray.size - n) (fun listed a' b w' hw' hb hL => by
    obtain ⟨hq, v, rfl, hT⟩ := hL
    have := wpAny_of_seq (md := .any) (Q' := Q) (l.drop n) n listed a' w' (fun j => by simp [List.getElem?_drop]) (by rw [hdl]; exact hq) (hT w' hw' (hb v rfl))
    rwa [hdl] at this) _ _ _ _ _ hC (fun v hv => by cases hv) H
  rw [hil, show n + (l.toArray.size - n) = l.toArray.size by omega] at K
  exact K
end
section
open Go.RowKit
set_option linter.unusedVariables false
variable {P : Program} {ops : Array Oper} {md : Region.Mode} {E : World → World → Prop} {Q : Exit → Act → World → Prop}
/-- the operation, carried out in this world, gives this value and leaves the world -/
def StillAt (P : Program) (o : Oper) (a : Act) (w : World) (v : Value) : Prop := (execOp (Act.eval a) o).run P w = .ok (.value v) w ∨ ((execOp (Act.eval a) o).run P w = .ok .skip w ∧ v = undef)
/-- in every later world the operation gives this value and leaves the world; or it is passed over -/
def YS (P : Program) (ops : Array Oper) (E : World → World → Prop) (o : Oper) (v : Value) (a : Act) (w : World) : Prop :=
  (Region.wanted o (yielded ops a.tmps) = true ∧ ∀ w', E w w' → StillAt P o a w' v) ∨ (Region.wanted o (yielded ops a.tmps) = false ∧ v = undef)
/-- the operation in this world: what it gives, in what world -/
def LoudE (P : Program) (E : World → World → Prop) (o : Oper) (a : Act) (w : World) (K : Value → World → Prop) : Prop :=
  match (execOp (Act.eval a) o).run P w with
  | .ok (.value v) w' => E w w' ∧ K v w'
  | .ok .skip w' => E w w' ∧ K undef w'
  | .ok (.enter f args) w' => Calls P f args w' fun e w'' => ∃ v, e = .returned v ∧ E w w'' ∧ K v w''
  | _ => False
theorem LoudE.mono {o : Oper} {a : Act} {w : World} {K K' : Value → World → Prop} (h : LoudE P E o a w K) (hk : ∀ v w', E w w' → K v w' → K' v w') : LoudE P E o a w K' := by
  unfold LoudE at *
  split at h <;> try exact h.elim
  · exact ⟨h.1, hk _ _ h.1 h.2⟩
  · exact ⟨h.1, hk _ _ h.1 h.2⟩
  · refine Calls.mono h ?_
    rintro e w'' ⟨v, h1, h2, h3⟩
    exact ⟨v, h1, h2, hk _ _ h2 h3⟩
theorem LoudE.same {o : Oper} {a a' : Act} {w : World} {K : Value → World → Prop} (he : execOp (Act.eval a') o = execOp (Act.eval a) o) (h : LoudE P E o a w K) : LoudE P E o a' w K := by
  unfold LoudE at *
  rw [he]
  exact h
/-- whatever order is taken -/
def anyG (P : Program) (md : Region.Mode) (ops : Array Oper) (E : World → World → Prop) (L : Array Bool → Act → World → Prop) : Nat → Array Bool → Act → World → Prop
  | 0, listed, a, w => L listed a w
  | f + 1, listed, a, w => Region.ready md ops listed ≠ [] ∧ ∀ i ∈ Region.ready md ops listed, ∃ oi, ops[i]? = some oi ∧
      ((∃ v, YS P ops E oi v a w ∧ anyG P md ops E L f (listed.setIfInBounds i true) (a.put oi.dst v) w) ∨
        (Region.wanted oi (yielded ops a.tmps) = true ∧ LoudE P E oi a w fun v w' => anyG P md ops E L f (listed.setIfInBounds i true) (a.put oi.dst v) w'))
theorem any_of_anyG {g : Nat} {L : Array Bool → Act → World → Prop} (hrefl : ∀ w, E w w) (hL : ∀ listed a w, L listed a w → wpAny P md ops Q g listed a w) : ∀ (f : Nat) (listed : Array Bool) (a : Act) (w : World), anyG P md ops E L f listed a w → wpAny P md ops Q (f + g) listed a w
  | 0, listed, a, w, h => by rw [Nat.zero_add]; exact hL _ _ _ h
  | f + 1, listed, a, w, h => by
    rw [show f + 1 + g = (f + g) + 1 by omega]
    refine ⟨fun h0 => absurd h0 h.1, fun i hi => ?_⟩
    obtain ⟨oi, hoi, h2⟩ := h.2 i hi
    unfold wpOp
    simp only [hoi]
    rcases h2 with ⟨v, ⟨hw, hr⟩ | ⟨hw, rfl⟩, hn⟩ | ⟨hw, hl⟩
    · simp only [hw, if_true]
      left
      unfold Oper.wp
      rcases hr w (hrefl w) with hr1 | ⟨hr1, rfl⟩
      · rw [hr1, Oper.upon_value]; exact any_of_anyG hrefl hL f _ _ w hn
      · rw [hr1, Oper.upon_skip]; exact any_of_anyG hrefl hL f _ _ w hn
    · simp only [hw, Bool.false_eq_true, if_false]
      exact any_of_anyG hrefl hL f _ _ w hn
    · simp only [hw, if_true]
      left
      unfold Oper.wp
      unfold LoudE at hl
      split at hl <;> try exact hl.elim
      · rename_i hr; rw [hr, Oper.upon_value]; exact any_of_anyG hrefl hL f _ _ _ hl.2
      · rename_i hr; rw [hr, Oper.upon_skip]; exact any_of_anyG hrefl hL f _ _ _ hl.2
      · rename_i hr
        rw [hr, Oper.upon_enter]
        refine Calls.mono hl ?_
        rintro e w'' ⟨v, rfl, _, h3⟩
        exact any_of_anyG hrefl hL f _ _ _ h3
/-- a still operation that may come up may be taken first -/
theorem firstG {L : Array Bool → Act → World → Prop} {T : Nat → Prop} {I : Array Bool → Prop} (hI : ∀ listed i, I listed → ¬ T i → i ∈ Region.ready md ops listed → I (listed.setIfInBounds i true)) (hno : ∀ listed i, I listed → ¬ T i → listed.getD i true = false → ∀ j ∈ Region.ready md ops listed, ¬ T j)
    (hL : ∀ listed a w, L listed a w → ∀ j ∈ Region.ready md ops listed, T j) (htr : ∀ u v w, E u v → E v w → E u w) {i : Nat} (hTi : ¬ T i) {oi : Oper} {v : Value} (hi : ops[i]? = some oi) (hsel : ∀ (j : Nat) (o : Oper) cs b, ops[j]? = some o → o.op ≠ .select cs b) :
    ∀ (f : Nat) (listed : Array Bool) (a : Act) (w : World), I listed →
      (∀ j oj, ops[j]? = some oj → j ≠ i → listed.getD j true = false → (∀ e ∈ oj.after, Region.binds md e = true → e.on ≠ i) → oi.apart ops oj = true) →
      i ∈ Region.ready md ops listed → YS P ops E oi v a w → anyG P md ops E L f (listed.setIfInBounds i true) (a.put oi.dst v) w → anyG P md ops E L (f + 1) listed a w := by
  intro f
  induction f with
  | zero =>
    intro listed a w inv _ hr hy H
    have hun := (mem_ready.1 hr).1
    refine ⟨fun h => (by rw [h] at hr; cases hr), fun j hj => ?_⟩
    by_cases hji : j = i
    · subst hji; exact ⟨oi, hi, .inl ⟨v, hy, H⟩⟩
    · exact absurd (hL _ _ _ H j (ready_mono hj hji)) (hno listed i inv hTi hun j hj)
  | succ f ih =>
    intro listed a w inv hfree hr hy H
    have hun := (mem_ready.1 hr).1
    refine ⟨fun h => (by rw [h] at hr; cases hr), fun j hj => ?_⟩
    by_cases hji : j = i
    · subst hji; exact ⟨oi, hi, .inl ⟨v, hy, H⟩⟩
    · obtain ⟨hjun, oj, hoj, hall⟩ := mem_ready.1 hj
      have hnot : ∀ e ∈ oj.after, Region.binds md e = true → e.on ≠ i := fun e he hb heq => by
        have := hall e he hb
        rw [heq, unlisted_of hun] at this
        cases this
      obtain ⟨h1, h2, h3⟩ := Oper.apart_spec (hfree j oj hoj hji hjun hnot)
      have hsi : ∀ cs b, oi.op ≠ .select cs b := fun cs b => hsel i oi cs b hi
      have hsj : ∀ cs b, oj.op ≠ .select cs b := fun cs b => hsel j oj cs b hoj
      have keep : ∀ u w', E w w' ∨ w' = w → YS P ops E oi v (a.put oj.dst u) w' := fun u w' hw' => by
        unfold YS StillAt at hy ⊢
        rw [wanted_put oi a oj.dst u h3, execOp_put oi hsi a oj.dst u h3]
        rcases hy with ⟨q1, q2⟩ | q
        · refine .inl ⟨q1, fun w2 hw2 => q2 w2 ?_⟩
          rcases hw' with hw' | rfl
          · exact htr _ _ _ hw' hw2
          · exact hw2
        · exact .inr q
      have hfree' : ∀ k ok, ops[k]? = some ok → k ≠ i → (listed.setIfInBounds j true).getD k true = false → (∀ e ∈ ok.after, Region.binds md e = true → e.on ≠ i) → oi.apart ops ok = true := fun k ok hk hki hkun hno => by
        refine hfree k ok hk hki ?_ hno
        by_cases hjk : j = k
        · subst hjk; exact hjun
        · rwa [getD_set_ne true hjk] at hkun
      obtain ⟨o2, ho2, h4⟩ := H.2 j (ready_mono hj hji)
      obtain rfl : o2 = oj := Option.some.inj (ho2.symm.trans hoj)
      refine ⟨o2, hoj, ?_⟩
      rcases h4 with ⟨u, hu, hnx⟩ | ⟨hwt, hl⟩
      · refine .inl ⟨u, ?_, ?_⟩
        · unfold YS StillAt at hu ⊢
          rwa [wanted_put o2 a oi.dst v h1, execOp_put o2 hsj a oi.dst v h1] at hu
        · refine ih (listed.setIfInBounds j true) (a.put o2.dst u) w (hI listed j inv (hno listed i inv hTi hun j hj) hj) hfree' (ready_mono hr (Ne.symm hji)) (keep u w (.inr rfl)) ?_
          rw [Array.setIfInBounds_comm _ _ hji, ← Act.put_comm a v u h2]
          exact hnx
      · rw [wanted_put o2 a oi.dst v h1] at hwt
        refine .inr ⟨hwt, (hl.same (execOp_put o2 hsj a oi.dst v h1).symm).mono fun u w' he hK => ?_⟩
        refine ih (listed.setIfInBounds j true) (a.put o2.dst u) w' (hI listed j inv (hno listed i inv hTi hun j hj) hj) hfree' (ready_mono hr (Ne.symm hji)) (keep u w' (.inl he)) ?_
        rw [Array.setIfInBounds_comm _ _ hji, ← Act.put_comm a v u h2]
        exact hK
/-- an order in which still operations come as soon as they may, the others each when nothing else may come; B: what is asked at its end -/
def okG (md : Region.Mode) (ops : Array Oper) (n : Nat) (B : Array Bool → Bool) : List (Nat × Bool) → Array Bool → Bool
  | [], listed => B listed
  | (i, false) :: is, listed => decide (i < n) && (Region.ready md ops listed).contains i && Region.free md ops listed i && okG md ops n B is (listed.setIfInBounds i true)
  | (i, true) :: is, listed => decide (i < n) && decide (Region.ready md ops listed = [i]) && okG md ops n B is (listed.setIfInBounds i true)
/-- the walk in that order -/
def wpG (P : Program) (ops : Array Oper) (E : World → World → Prop) (K : Act → World → Prop) : List (Nat × Bool) → Act → World → Prop
  | [], a, w => K a w
  | (i, false) :: is, a, w => ∃ o v, ops[i]? = some o ∧ YS P ops E o v a w ∧ wpG P ops E K is (a.put o.dst v) w
  | (i, true) :: is, a, w => ∃ o, ops[i]? = some o ∧ ((Region.wanted o (yielded ops a.tmps) = true ∧ LoudE P E o a w fun v w' => wpG P ops E K is (a.put o.dst v) w') ∨ (Region.wanted o (yielded ops a.tmps) = false ∧ wpG P ops E K is (a.put o.dst undef) w))
theorem lexG {n : Nat} {B : Array Bool → Bool} {K : Act → World → Prop} {I : Array Bool → Prop} (hI : ∀ listed i, I listed → ¬ n ≤ i → i ∈ Region.ready md ops listed → I (listed.setIfInBounds i true)) (hno : ∀ listed i, I listed → ¬ n ≤ i → listed.getD i true = false → ∀ j ∈ Region.ready md ops listed, ¬ n ≤ j)
    (hBr : ∀ listed, B listed = true → ∀ j ∈ Region.ready md ops listed, n ≤ j) (htr : ∀ u v w, E u v → E v w → E u w) (hsel : Region.noSelect ops = true) :
    ∀ (is : List (Nat × Bool)) (listed : Array Bool) (a : Act) (w : World), I listed → okG md ops n B is listed = true → wpG P ops E K is a w → anyG P md ops E (fun listed' a' w' => B listed' = true ∧ K a' w') is.length listed a w
  | [], listed, a, w, _, hB, h => ⟨hB, h⟩
  | (i, false) :: is, listed, a, w, inv, hB, h => by
    simp only [okG, Bool.and_eq_true, decide_eq_true_eq] at hB
    obtain ⟨o, v, ho, hy, hK⟩ := h
    have hr : i ∈ Region.ready md ops listed := by simpa using hB.1.1.2
    exact firstG (T := fun j => n ≤ j) hI hno (fun l' a' w' hl' => hBr l' hl'.1) htr (by have := hB.1.1.1; omega) ho (Region.noSelect_spec hsel) is.length listed a w inv (Region.free_spec ho hB.1.2) hr hy
      (lexG hI hno hBr htr hsel is _ _ w (hI _ _ inv (by have := hB.1.1.1; omega) hr) hB.2 hK)
  | (i, true) :: is, listed, a, w, inv, hB, h => by
    simp only [okG, Bool.and_eq_true, decide_eq_true_eq] at hB
    obtain ⟨o, ho, h⟩ := h
    have inv' := hI listed i inv (by have := hB.1.1; omega) (by rw [hB.1.2]; simp)
    refine ⟨fun h0 => (by rw [hB.1.2] at h0; cases h0), fun j hj => ?_⟩
    rw [hB.1.2] at hj
    obtain rfl : j = i := by simpa using hj
    refine ⟨o, ho, ?_⟩
    rcases h with ⟨h1, h2⟩ | ⟨h1, h2⟩
    · exact .inr ⟨h1, h2.mono fun u w' _ hK => lexG hI hno hBr htr hsel is _ _ w' inv' hB.2 hK⟩
    · exact .inl ⟨undef, .inr ⟨h1, rfl⟩, lexG hI hno hBr htr hsel is _ _ w inv' hB.2 h2⟩
def planOK (md : Region.Mode) (ops : Array Oper) (is : List (Nat × Bool)) : Bool := Region.noSelect ops && decide (is.length = ops.size) && okG md ops ops.size (fun listed => decide (Region.ready md ops listed = [])) is (Array.replicate ops.size false)
theorem wp_region_plan {id : Nat} {a : Act} {w : World} {l : List Oper} (is : List (Nat × Bool)) (E : World → World → Prop) (hrefl : ∀ w, E w w) (htr : ∀ u v w, E u v → E v w → E u w) (hm : P.follows .mixedOrders = true) (hB : planOK .any l.toArray is = true)
    (h : wpG P l.toArray E (fun a' w' => Q .normal a' w') is a w.drew) : (Code.region id l.toArray true).wp P Q a w := by
  simp only [planOK, Bool.and_eq_true, decide_eq_true_eq] at hB
  refine wp_region_any hm ?_
  have H := lexG (md := .any) (I := fun _ => True) (fun _ _ _ _ _ => trivial) (fun listed i _ _ _ j hj => by
    obtain ⟨_, oj, hoj, _⟩ := mem_ready.1 hj
    have := (Array.getElem?_eq_some_iff.1 hoj).1
    omega) (fun listed hl j hj => by
      simp only [decide_eq_true_eq] at hl
      rw [hl] at hj
      cases hj) htr hB.1.1 is _ a w.drew trivial hB.2 h
  have := any_of_anyG (Q := Q) (g := 0) hrefl (fun listed a' w' hl => by
    obtain ⟨h1, h2⟩ := hl
    simp only [decide_eq_true_eq] at h1
    exact ⟨h1, h2⟩) _ _ _ _ H
  rwa [Nat.add_zero, hB.1.2] at this
/-- .. with a forced end -/
def planTailOK (md : Region.Mode) (ops : Array Oper) (n : Nat) (is : List (Nat × Bool)) : Bool :=
  Region.noSelect ops && decide (n < ops.size) && decide (is.length = n) && Region.sinkB md ops n && afterB md ops n && okG md ops n (fun listed => Region.seqB md ops (ops.size - n) n listed) is (Array.replicate ops.size false)
theorem wp_region_plan_tail {id : Nat} {a : Act} {w : World} {l : List Oper} (n : Nat) (is : List (Nat × Bool)) (E : World → World → Prop) (hrefl : ∀ w, E w w) (htr : ∀ u v w, E u v → E v w → E u w) (hm : P.follows .mixedOrders = true) (hB : planTailOK .any l.toArray n is = true)
    (h : wpG P l.toArray E (fun a' w' => wpList P l.toArray Q (l.drop n) a' w') is a w.drew) : (Code.region id l.toArray true).wp P Q a w := by
  simp only [planTailOK, Bool.and_eq_true, decide_eq_true_eq] at hB
  obtain ⟨⟨⟨⟨⟨hsel, hn⟩, hil⟩, hs⟩, hc⟩, hlex⟩ := hB
  have hdl : (l.drop n).length = l.toArray.size - n := by simp
  have inv0 : HeadInv .any l.toArray n (Array.replicate l.toArray.size false) :=
    ⟨by simp, fun j oj _ hl => (by rw [getD_replicate_false] at hl; cases hl), fun t _ ht => getD_in (by simpa using ht) (getD_replicate_false _ _)⟩
  refine wp_region_any hm ?_
  have H := lexG (md := .any) (I := HeadInv .any l.toArray n) (fun listed i inv hi hr => inv.set hr (by omega)) (fun listed i inv hi hun j hj hnj => tail_waitsC hs hc hn inv _ i rfl (by omega) hun j hnj hj) (fun listed hl j hj => seqB_ready hl j hj) htr hsel is _ a w.drew inv0 hlex h
  have := any_of_anyG (Q := Q) (g := l.toArray.size - n) hrefl (fun listed a' w' hl => by
    obtain ⟨h1, h2⟩ := hl
    have := wpAny_of_seq (md := .any) (Q' := Q) (l.drop n) n listed a' w' (fun j => by simp [List.getElem?_drop]) (by rw [hdl]; exact h1) h2
    rwa [hdl] at this) _ _ _ _ H
  rwa [hil, show n + (l.toArray.size - n) = l.toArray.size by omega] at this
/-- what can be no call -/
def stillB : Op → Bool
  | .move _ | .assign _ | .pick .. | .load .. | .binOp .. | .unOp .. | .convert .. | .sliceToArrayPointer .. | .slice .. | .fieldAddr .. | .field .. | .indexAddr .. | .index .. | .lookup .. | .extract .. | .build .. | .makeInterface .. => true
  | .call c => match c.callee with
    | .builtin .len | .builtin .cap | .builtin .min | .builtin .max => true
    | _ => false
  | _ => false
theorem value_no {s : Sem Value} {w w' : World} {f : FuncId} {args : Array Value} : ((do pure (.value (← s)) : Sem Next)).run P w ≠ .ok (.enter f args) w' := by
  rw [Sem.run_bind]
  cases s.run P w with
  | ok v w1 => intro h; simp [Result.andThen] at h
  | halt x w1 => intro h; simp [Result.andThen] at h
theorem still_no {o : Oper} (h : stillB o.op = true) (a : Act) (w w' : World) (f : FuncId) (args : Array Value) : (execOp (Act.eval a) o).run P w ≠ .ok (.enter f args) w' := by
  unfold stillB at h
  unfold execOp
  split at h
  all_goals first | (rename_i ho; simp only [ho]; first | exact value_no | (intro e; simp at e; done) | (rw [Sem.run_bind]; intro e; revert e; cases (asBool _).run P w <;> (intro e; simp [Result.andThen] at e; done))) | skip
  · rename_i c ho
    simp only [ho]
    split at h
    · rename_i hc
      rw [show ((do let d ← resolve (Act.eval a) c o.type; invoke d.target d.args : Sem Next)) = (do pure (.value (← Builtin.len_ c.argTypes o.type (c.args.map (Act.eval a)))) : Sem Next) by simp [resolve, hc, invoke, builtin]]
      exact value_no
    · rename_i hc
      rw [show ((do let d ← resolve (Act.eval a) c o.type; invoke d.target d.args : Sem Next)) = (do pure (.value (← Builtin.cap_ c.argTypes o.type (c.args.map (Act.eval a)))) : Sem Next) by simp [resolve, hc, invoke, builtin]]
      exact value_no
    · rename_i hc
      rw [show ((do let d ← resolve (Act.eval a) c o.type; invoke d.target d.args : Sem Next)) = (do pure (.value (← Builtin.min_ c.argTypes o.type (c.args.map (Act.eval a)))) : Sem Next) by simp [resolve, hc, invoke, builtin]]
      exact value_no
    · rename_i hc
      rw [show ((do let d ← resolve (Act.eval a) c o.type; invoke d.target d.args : Sem Next)) = (do pure (.value (← Builtin.max_ c.argTypes o.type (c.args.map (Act.eval a)))) : Sem Next) by simp [resolve, hc, invoke, builtin]]
      exact value_no
    · cases h
  · cases h
theorem wpG_still {l : List Oper} {K : Act → World → Prop} {i : Nat} {is : List (Nat × Bool)} {a : Act} {w : World} (o : Oper) (hi : l[i]? = some o) (hs : stillB o.op = true) (h : wpQuiet P l.toArray (fun w' => E w w') (fun a' => wpG P l.toArray E K is a' w) [o] a) : wpG P l.toArray E K ((i, false) :: is) a w := by
  unfold wpQuiet at h
  by_cases hw : Region.wanted o (yielded l.toArray a.tmps) = true
  · rw [if_pos hw] at h
    obtain ⟨v, h1, h2⟩ := h
    refine ⟨o, v, by simpa using hi, .inl ⟨hw, fun w' hw' => ?_⟩, h2⟩
    have h3 := h1 w' hw'
    unfold Oper.quietAt Oper.quietUpon at h3
    unfold StillAt
    split at h3
    · rename_i hr; obtain ⟨rfl, rfl⟩ := h3; exact .inl hr
    · rename_i hr; obtain ⟨rfl, rfl⟩ := h3; exact .inr ⟨hr, rfl⟩
    · rename_i hr; exact absurd hr (still_no hs _ _ _ _ _)
    · exact h3.elim
  · rw [if_neg hw] at h
    exact ⟨o, undef, by simpa using hi, .inr ⟨by simpa using hw, rfl⟩, h⟩
/-- a call -/
theorem wpG_call {l : List Oper} {K : Act → World → Prop} {i : Nat} {is : List (Nat × Bool)} {a : Act} {w : World} (o : Oper) (hi : l[i]? = some o) (hw : Region.wanted o (yielded l.toArray a.tmps) = true) (f : FuncId) (args : Array Value) (hr : ∀ w, (execOp (Act.eval a) o).run P w = .ok (.enter f args) w)
    (h : Calls P f args w fun e w' => ∃ v, e = .returned v ∧ E w w' ∧ wpG P l.toArray E K is (a.put o.dst v) w') : wpG P l.toArray E K ((i, true) :: is) a w := by
  refine ⟨o, by simpa using hi, .inl ⟨hw, ?_⟩⟩
  unfold LoudE
  rw [hr]
  exact h
/-- an operation that makes memory, or writes it -/
theorem wpG_value {l : List Oper} {K : Act → World → Prop} {i : Nat} {is : List (Nat × Bool)} {a : Act} {w w' : World} (o : Oper) (hi : l[i]? = some o) (hw : Region.wanted o (yielded l.toArray a.tmps) = true) (v : Value) (hr : (execOp (Act.eval a) o).run P w = .ok (.value v) w') (he : E w w') (h : wpG P l.toArray E K is (a.put o.dst v) w') : wpG P l.toArray E K ((i, true) :: is) a w := by
  refine ⟨o, by simpa using hi, .inl ⟨hw, ?_⟩⟩
  unfold LoudE
  rw [hr]
  exact ⟨he, h⟩
theorem wpG_skip {l : List Oper} {K : Act → World → Prop} {i : Nat} {is : List (Nat × Bool)} {a : Act} {w w' : World} (o : Oper) (hi : l[i]? = some o) (hw : Region.wanted o (yielded l.toArray a.tmps) = true) (hr : (execOp (Act.eval a) o).run P w = .ok .skip w') (he : E w w') (h : wpG P l.toArray E K is (a.put o.dst undef) w') : wpG P l.toArray E K ((i, true) :: is) a w := by
  refine ⟨o, by simpa using hi, .inl ⟨hw, ?_⟩⟩
  unfold LoudE
  rw [hr]
  exact ⟨he, h⟩
/-- a guard that says no -/
theorem wpG_no {l : List Oper} {K : Act → World → Prop} {i : Nat} {is : List (Nat × Bool)} {a : Act} {w : World} (o : Oper) (hi : l[i]? = some o) (hw : Region.wanted o (yielded l.toArray a.tmps) = false) (h : wpG P l.toArray E K is (a.put o.dst undef) w) : wpG P l.toArray E K ((i, true) :: is) a w :=
  ⟨o, by simpa using hi, .inr ⟨hw, h⟩⟩
/-- a still operation whose value hangs on the world's class -/
theorem wpQuiet_pureC {C : World → Prop} {rest : List Oper} {o : Oper} {Q : Act → Prop} {l : List Value} {df : List Deferred} (d : Nat) (hd : o.dst = some d) (hw : Region.wanted o (yielded ops l.toArray) = true) (v : Value) (hr : ∀ w, C w → (execOp (Act.eval ⟨l.toArray, df⟩) o).run P w = .ok (.value v) w)
    (h : wpQuiet P ops C Q rest ⟨(l.set d v).toArray, df⟩) : wpQuiet P ops C Q (o :: rest) ⟨l.toArray, df⟩ := by
  refine wpQuiet_step fun K hK => ?_
  rw [if_pos (by rw [show (⟨l.toArray, df⟩ : Act).tmps = l.toArray from rfl, hw])]
  refine ⟨v, fun w hC => ?_, ?_⟩
  · unfold Oper.quietAt
    rw [hr w hC]
    exact ⟨rfl, rfl⟩
  · have : (Act.put ⟨l.toArray, df⟩ o.dst v) = ⟨(l.set d v).toArray, df⟩ := by
      simp [Act.put, hd]
    rw [this]
    exact hK _ h
theorem run_conv {o : Oper} {a : Act} {w : World} (s t : TypeId) (x : Operand) (ho : o.op = .convert s t x) (u v : Value) (hx : a.eval x = u) (hc : (convert s t u).run P w = .ok v w) : (execOp (Act.eval a) o).run P w = .ok (.value v) w := by
  simp [execOp, ho, hx, hc, Result.andThen]
theorem calls_as {f : FuncId} {args args' : Array Value} {w : World} {R : Ending → World → Prop} (h : args = args') (hc : Calls P f args' w R) : Calls P f args w R := h ▸ hc
theorem wpG_nil {K : Act → World → Prop} {a : Act} {w : World} (h : K a w) : wpG P ops E K [] a w := h
theorem bel_undrew {B : Nat} {w w' : World} (h : Below B w.drew w') : Below B w w' := ⟨h.os, h.tape, h.output, h.size, h.block⟩
/-- the relation that is mostly wanted: what was there is as it was -/
theorem bel_refl (w : World) : Below w.heap.size w w := Below.refl _ _
theorem bel_trans (u v w : World) (h : Below u.heap.size u v) (k : Below v.heap.size v w) : Below u.heap.size u w := h.trans (k.mono h.size)
end
section
open Go.RowKit
set_option maxRecDepth 100000
set_option maxHeartbeats 2000000
set_option linter.unusedVariables false
def tcell (t : Tg) : List Value := bvs t.object ++ [.int .i64 t.kind, .string (bstr t.name), .string (bstr t.tagger), .string (bstr t.message)]
abbrev tv (t : Tg) : Value := .agg (tcell t).toArray
theorem tcell_len {k : Tg} (h : k.object.length = 20) : (tcell k).length = 24 := by simp [tcell, h]
theorem tcell_at {k : Tg} (h : k.object.length = 20) : (tcell k)[20]? = some (.int .i64 k.kind) ∧ (tcell k)[21]? = some (.string (bstr k.name)) ∧ (tcell k)[22]? = some (.string (bstr k.tagger)) ∧ (tcell k)[23]? = some (.string (bstr k.message)) := by
  have hl : (bvs k.object).length = 20 := by simp [h]
  unfold tcell
  refine ⟨?_, ?_, ?_, ?_⟩ <;> rw [List.getElem?_append_right (by rw [hl]; decide), hl] <;> rfl
theorem load_tg {w : World} {ad : Addr} {k : Tg} (h20 : k.object.length = 20) (h : Sl w (some ad) (tcell k)) : (loadVar 47 ad).run Tryz.prog w = .ok (tv k) w := by
  have hl : (loadCells ad (tcell k).length).run Tryz.prog w = .ok (tcell k).toArray w :=
    run_loadCells_list (P := Tryz.prog) w ad (tcell k) (fun j v hv => by obtain ⟨ad', q, hc⟩ := h j v hv; injection q with q; subst q; exact hc)
  rw [tcell_len h20] at hl
  have hagg : (isAgg 47).run Tryz.prog w = .ok true w := by kernel_rfl
  simp [loadVar, Sem.run_bind, hagg, hl]
theorem tg_at {w : World} {ad : Addr} {k : Tg} (h : Sl w (some ad) (tcell k)) {j : Nat} {v : Value} (hv : (tcell k)[j]? = some v) : w.cell? (ad.add j) = some v := by
  obtain ⟨ad', q, hc⟩ := h j v hv
  injection q with q
  subst q
  exact hc
theorem wrongT_any (t : Tg) (h20 : t.object.length = 20) (ha : t.name.length ≤ 1000000) (hc : t.tagger.length ≤ 1000000) (w : World) :
    Calls Tryz.prog 71 #[tv t] w fun e w' => e = .returned (.bool (wrongT t)) ∧ Below w.heap.size w w' := by
  obtain ⟨W0, hW0⟩ : ∃ W0, W0 = w.alloc (.cells (tcell t).toArray 47) := ⟨_, rfl⟩
  have hb0 : Below w.heap.size w W0 := by rw [hW0]; exact (Below.refl _ _).alloc (Nat.le_refl _) _
  have S0 : Sl W0 (some ⟨w.heap.size, 0, none⟩) (tcell t) := by
    rw [hW0]
    exact Sl.of_block (heap_alloc_new _ _) (fun j v hj => by simpa using hj)
  obtain ⟨q1, q2, q3, q4⟩ := tcell_at h20
  have c1 := tg_at S0 q1; have c2 := tg_at S0 q2; have c3 := tg_at S0 q3
  rw [add_plain, Nat.zero_add] at c1 c2 c3
  have kw := fun w' => oword_any t.kind w'
  have ka := fun w' => text_any t.name 100 w' (by omega) (by decide)
  have kc := fun w' => text_any t.tagger 200 w' (by omega) (by decide)
  have hW : Hid (wrongT t = ((wordI t.kind == []) || !(textI t.name 100) || !(textI t.tagger 200))) := Lib.hid rfl
  obtain ⟨e0, he0⟩ : ∃ e0, e0 = (wordI t.kind == []) := ⟨_, rfl⟩
  have he1 : (bstr (wordI t.kind) == ⟨#[]⟩) = e0 := by
    rw [he0]
    by_cases h : wordI t.kind = []
    · rw [h]; rfl
    · rw [show (wordI t.kind == []) = false by simpa using h]; exact bstr_ne h
  obtain ⟨ta, hta⟩ : ∃ ta, ta = textI t.name 100 := ⟨_, rfl⟩
  obtain ⟨tc, htc⟩ : ∃ tc, tc = textI t.tagger 200 := ⟨_, rfl⟩
  rw [← hta] at ka hW
  rw [← htc] at kc hW
  rw [← he0] at hW
  obtain ⟨wd, hwd⟩ : ∃ wd, wd = wordI t.kind := ⟨_, rfl⟩
  rw [← hwd] at kw he1 he0
  have KA : ∀ w', Calls Tryz.prog 106 #[.string (bstr t.name), .int .i64 100] w' fun e w'' => e = .returned (.bool ta) ∧ w' = w'' := ka
  have KC : ∀ w', Calls Tryz.prog 106 #[.string (bstr t.tagger), .int .i64 200] w' fun e w'' => e = .returned (.bool tc) ∧ w' = w'' := kc
  have HW0 := Lib.hid hW0; have HB0 := Lib.hid hb0; have HE := Lib.hid he0
  rw [hW.out]
  clear hW0 hb0 S0 q1 q2 q3 q4 ka kc hta htc hwd h20 ha hc hW he0
  cases wd with
  | nil =>
    have hz : e0 = true := HE.out
    subst hz
    clear he1
    go_enter Tryz.func71, Tryz.ntmps71
    go_upto_region 1 with fail
    rw [← HW0.out]
    go_wp2_with (first
      | (go_at_call 16; (with_reducible refine (kw _).mono ?_); rintro e w1 ⟨rfl, rfl⟩))
    go_ret
    exact ⟨rfl, HB0.out⟩
  | cons x l =>
    have hz : e0 = false := HE.out
    subst hz
    clear he1
    cases ta <;> cases tc
    all_goals
      go_enter Tryz.func71, Tryz.ntmps71
      go_upto_region 1 with fail
      rw [← HW0.out]
      go_wp2_with (first
        | (go_at_call 16; (with_reducible refine (kw _).mono ?_); rintro e w1 ⟨rfl, rfl⟩)
        | (go_at_call 106; (with_reducible refine (KA _).mono ?_); rintro e w2 ⟨rfl, rfl⟩)
        | (go_at_call 106; (with_reducible refine (KC _).mono ?_); rintro e w2 ⟨rfl, rfl⟩))
      go_ret
      exact ⟨rfl, HB0.out⟩
theorem load_oneC {T : Nat} (hT : ∀ w, (isAgg T).run Tryz.prog w = .ok false w) {w : World} {ad : Addr} {v : Value} (h : w.cell? ad = some v) : (loadVar T ad).run Tryz.prog w = .ok v w := by
  simp [loadVar, Sem.run_bind, hT w, run_load, h]
theorem tgB_eq (t : Tg) : (⟨#[111, 98, 106, 101, 99, 116, 32]⟩ ++ bstr (hexs t.object) ++ ⟨#[10, 116, 121, 112, 101, 32]⟩ ++ bstr (wordI t.kind) ++ ⟨#[10, 116, 97, 103, 32]⟩ ++ bstr t.name ++ ⟨#[10, 116, 97, 103, 103, 101, 114, 32]⟩ ++ bstr t.tagger ++ ⟨#[10, 10]⟩ ++ bstr t.message : ByteArray) = bstr (tgB t) := by
  apply ByteArray.ext
  simp [tgB, wObject, wType, wTag, wTagger]
theorem word_le (k : Int) : (wordI k).length ≤ 6 := by
  unfold wordI
  repeat' split
  all_goals decide
theorem calls_args {P : Program} {f : FuncId} {args args' : Array Value} {w : World} {R : Ending → World → Prop} (h : args = args') (hc : Calls P f args' w R) : Calls P f args w R := h ▸ hc
theorem encT_any (t : Tg) (h20 : t.object.length = 20) (ha : t.name.length ≤ 1000000) (hc : t.tagger.length ≤ 1000000) (hm : t.message.length ≤ 1000000) (w : World) :
    Calls Tryz.prog 26 #[tv t] w (OutB (encT t).1 (encT t).2 w) := by
  obtain ⟨W0, hW0⟩ : ∃ W0, W0 = w.alloc (.cells (tcell t).toArray 47) := ⟨_, rfl⟩
  have hb0 : Below w.heap.size w W0 := by rw [hW0]; exact (Below.refl _ _).alloc (Nat.le_refl _) _
  have S0 : Sl W0 (some ⟨w.heap.size, 0, none⟩) (tcell t) := by
    rw [hW0]
    exact Sl.of_block (heap_alloc_new _ _) (fun j v hj => by simpa using hj)
  have kw := wrongT_any t h20 ha hc W0
  have L0 := load_tg h20 S0
  cases hw : wrongT t with
  | true =>
    have e : Hid (encT t = ([], 1)) := Lib.hid (if_pos hw)
    rw [hw] at kw
    have HW0 := Lib.hid hW0; have HB0 := Lib.hid hb0
    clear hw hW0 hb0 S0 h20 ha hc hm
    go_enter Tryz.func26, Tryz.ntmps26
    go_upto_region 1 with fail
    rw [← HW0.out]
    go_wp2_with (first
      | (refine wpList_loadG 47 (.tmp 1) rfl ⟨w.heap.size, 0, none⟩ rfl (tv t) L0 rfl ?_)
      | (go_at_call 71; (with_reducible refine kw.mono ?_); rintro e w1 ⟨rfl, hb1⟩))
    go_ret2
    rw [e.out]
    exact ⟨⟨none, 0, rfl, Nat.le_refl _, Sl.nil _ _⟩, HB0.out.trans (hb1.mono HB0.out.size)⟩
  | false =>
    have e : Hid (encT t = wholeI (tgB t)) := Lib.hid (by unfold encT wholeI; rw [hw]; rfl)
    rw [hw] at kw
    obtain ⟨q1, q2, q3, q4⟩ := tcell_at h20
    have so : ∀ w', Below W0.heap.size W0 w' → Sl w' (some ⟨w.heap.size, 0, none⟩) (bvs t.object) := fun w' h j v hj => S0.below h j v (by
      unfold tcell
      rw [List.getElem?_append_left (by have := (List.getElem?_eq_some_iff.1 hj).1; simpa using this)]
      exact hj)
    have cs : ∀ w', Below W0.heap.size W0 w' → w'.cell? ⟨w.heap.size, 20, none⟩ = some (.int .i64 t.kind) ∧ w'.cell? ⟨w.heap.size, 21, none⟩ = some (.string (bstr t.name)) ∧ w'.cell? ⟨w.heap.size, 22, none⟩ = some (.string (bstr t.tagger)) ∧ w'.cell? ⟨w.heap.size, 23, none⟩ = some (.string (bstr t.message)) := fun w' h => by
      have a1 := tg_at (S0.below h) q1; have a2 := tg_at (S0.below h) q2; have a3 := tg_at (S0.below h) q3; have a4 := tg_at (S0.below h) q4
      rw [add_plain, Nat.zero_add] at a1 a2 a3 a4
      exact ⟨a1, a2, a3, a4⟩
    have hhl : (hexs t.object).length ≤ 40 := by rw [hexs_len, h20]; omega
    have hwl := word_le t.kind
    have heq := tgB_eq t
    have hlen : (tgB t).length ≤ 1073741824 := by
      simp only [tgB, wObject, wType, wTag, wTagger, List.length_append, List.length_cons, List.length_nil]
      omega
    have kwh := fun w => whole_any (tgB t) hlen w
    have kh := fun w => hex_any t.object w h20
    have kwd := fun w => oword_any t.kind w
    have HW0 := Lib.hid hW0; have HB0 := Lib.hid hb0; have SO := Lib.hid so; have CS := Lib.hid cs; have HEQ := Lib.hid heq; have KWH := Lib.hid kwh; have KH := Lib.hid kh; have KWD := Lib.hid kwd
    have H20 := Lib.hid h20; have HA := Lib.hid ha; have HC := Lib.hid hc; have HM := Lib.hid hm; have HHL := Lib.hid hhl; have HWL := Lib.hid hwl
    obtain ⟨hx, hhx⟩ : ∃ hx, hx = hexs t.object := ⟨_, rfl⟩
    obtain ⟨wd, hwd⟩ : ∃ wd, wd = wordI t.kind := ⟨_, rfl⟩
    rw [← hhx] at KH HEQ HHL
    rw [← hwd] at KWD HEQ HWL
    rw [e.out]
    clear e hw hW0 hb0 S0 h20 ha hc hm so cs heq kwh kh kwd hhl hwl hhx hwd q1 q2 q3 q4 hlen
    go_enter Tryz.func26, Tryz.ntmps26
    go_upto_region 1 with fail
    rw [← HW0.out]
    go_upto_region 3 with (first
      | (refine wpList_loadG 47 (.tmp 1) rfl ⟨w.heap.size, 0, none⟩ rfl (tv t) L0 rfl ?_)
      | (go_at_call 71; (with_reducible refine kw.mono ?_); rintro e w1 ⟨rfl, hb1⟩))
    have keep : ∀ w', Below w1.heap.size w1 w' → w'.rangeAt w.heap.size 0 (bvs t.object) ∧ w'.cell? ⟨w.heap.size, 20, none⟩ = some (.int .i64 t.kind) ∧ w'.cell? ⟨w.heap.size, 21, none⟩ = some (.string (bstr t.name)) ∧ w'.cell? ⟨w.heap.size, 22, none⟩ = some (.string (bstr t.tagger)) ∧ w'.cell? ⟨w.heap.size, 23, none⟩ = some (.string (bstr t.message)) ∧ Below w1.heap.size w1 w' := fun w' h => by
      have hb := hb1.trans (h.mono hb1.size)
      have h1 := CS.out w' hb
      refine ⟨fun j v hj => ?_, h1.1, h1.2.1, h1.2.2.1, h1.2.2.2, h⟩
      obtain ⟨ad, ea, hc⟩ := SO.out w' hb j v hj
      injection ea with ea
      subst ea
      rwa [add_plain] at hc
    have KEEP := Lib.hid keep; have HB1 := Lib.hid (HB0.out.trans (hb1.mono HB0.out.size))
    have z1 := HHL.out; have z2 := HWL.out; have z3 := HA.out; have z4 := HC.out; have z5 := HM.out
    have l0 : ∀ w', Below w1.heap.size w1 w' → (loadVar 27 ⟨w.heap.size, 0, none⟩).run Tryz.prog w' = .ok (idv t.object) w' := fun w' h => load_id t.object H20.out _ _ (SO.out w' (hb1.trans (h.mono hb1.size)))
    have l1 : ∀ w', Below w1.heap.size w1 w' → (loadVar 3 ⟨w.heap.size, 20, none⟩).run Tryz.prog w' = .ok (.int .i64 t.kind) w' := fun w' h => load_oneC (fun w => by kernel_rfl) (KEEP.out w' h).2.1
    have l2 : ∀ w', Below w1.heap.size w1 w' → (loadVar 9 ⟨w.heap.size, 21, none⟩).run Tryz.prog w' = .ok (.string (bstr t.name)) w' := fun w' h => load_oneC (fun w => by kernel_rfl) (KEEP.out w' h).2.2.1
    have l3 : ∀ w', Below w1.heap.size w1 w' → (loadVar 9 ⟨w.heap.size, 22, none⟩).run Tryz.prog w' = .ok (.string (bstr t.tagger)) w' := fun w' h => load_oneC (fun w => by kernel_rfl) (KEEP.out w' h).2.2.2.1
    have l4 : ∀ w', Below w1.heap.size w1 w' → (loadVar 9 ⟨w.heap.size, 23, none⟩).run Tryz.prog w' = .ok (.string (bstr t.message)) w' := fun w' h => load_oneC (fun w => by kernel_rfl) (KEEP.out w' h).2.2.2.2.1
    have c0 : ∀ w', Below w1.heap.size w1 w' → Calls Tryz.prog 64 #[idv t.object] w' fun e w'' => e = .returned (.string (bstr hx)) ∧ Below w1.heap.size w1 w'' := fun w' h => quietB h (KH.out w')
    have c1 : ∀ w', Below w1.heap.size w1 w' → Calls Tryz.prog 16 #[.int .i64 t.kind] w' fun e w'' => e = .returned (.string (bstr wd)) ∧ Below w1.heap.size w1 w'' := fun w' h => quietS h (KWD.out w')
    have q0 := Lib.hid l0; have q1 := Lib.hid l1; have q2 := Lib.hid l2; have q3 := Lib.hid l3; have q4 := Lib.hid l4; have d0 := Lib.hid c0; have d1 := Lib.hid c1
    clear keep hb1 l0 l1 l2 l3 l4 c0 c1
    refine wp_region_quiet_call 21 (C := fun w' => Below w1.heap.size w1 w') (Below.refl _ _).drew (by kernel_rfl) (by decide +kernel) _ rfl 65 ?_
    simp only [List.take_succ_cons, List.take_zero, List.drop_succ_cons, List.drop_zero]
    go_big_quiet_step ((intro hb; rfl))
    (refine wpQuiet_load 27 (.tmp 6) rfl ⟨w.heap.size, 0, none⟩ rfl (idv t.object) q0.out _ rfl rfl ?_; simp only [List.set_cons_succ, List.set_cons_zero])
    go_big_quiet_step ((intro hb; (with_reducible exact d0.out _ hb)))
    go_big_quiet_step ((intro hb; first | rfl | (rw [if_neg (by simp; omega)]; exact ⟨rfl, rfl⟩)))
    go_big_quiet_step ((intro hb; first | rfl | (rw [if_neg (by simp; omega)]; exact ⟨rfl, rfl⟩)))
    go_big_quiet_step ((intro hb; rfl))
    (refine wpQuiet_load 3 (.tmp 11) rfl ⟨w.heap.size, 20, none⟩ rfl (.int .i64 t.kind) q1.out _ rfl rfl ?_; simp only [List.set_cons_succ, List.set_cons_zero])
    go_big_quiet_step ((intro hb; (with_reducible exact d1.out _ hb)))
    go_big_quiet_step ((intro hb; first | rfl | (rw [if_neg (by simp; omega)]; exact ⟨rfl, rfl⟩)))
    go_big_quiet_step ((intro hb; first | rfl | (rw [if_neg (by simp; omega)]; exact ⟨rfl, rfl⟩)))
    go_big_quiet_step ((intro hb; rfl))
    (refine wpQuiet_load 9 (.tmp 16) rfl ⟨w.heap.size, 21, none⟩ rfl (.string (bstr t.name)) q2.out _ rfl rfl ?_; simp only [List.set_cons_succ, List.set_cons_zero])
    go_big_quiet_step ((intro hb; first | rfl | (rw [if_neg (by simp; omega)]; exact ⟨rfl, rfl⟩)))
    go_big_quiet_step ((intro hb; first | rfl | (rw [if_neg (by simp; omega)]; exact ⟨rfl, rfl⟩)))
    go_big_quiet_step ((intro hb; rfl))
    (refine wpQuiet_load 9 (.tmp 20) rfl ⟨w.heap.size, 22, none⟩ rfl (.string (bstr t.tagger)) q3.out _ rfl rfl ?_; simp only [List.set_cons_succ, List.set_cons_zero])
    go_big_quiet_step ((intro hb; first | rfl | (rw [if_neg (by simp; omega)]; exact ⟨rfl, rfl⟩)))
    go_big_quiet_step ((intro hb; first | rfl | (rw [if_neg (by simp; omega)]; exact ⟨rfl, rfl⟩)))
    go_big_quiet_step ((intro hb; rfl))
    (refine wpQuiet_load 9 (.tmp 24) rfl ⟨w.heap.size, 23, none⟩ rfl (.string (bstr t.message)) q4.out _ rfl rfl ?_; simp only [List.set_cons_succ, List.set_cons_zero])
    go_big_quiet_step ((intro hb; first | rfl | (rw [if_neg (by simp; omega)]; exact ⟨rfl, rfl⟩)))
    refine wpQuiet_nil ⟨rfl, _, fun w => rfl, fun w' hw' => ?_⟩
    refine calls_args (args' := #[.string (bstr (tgB t))]) (by simp [Act.eval]; exact HEQ.out) ?_
    refine (KWH.out w').mono ?_
    rintro e w7 ⟨⟨A7, c7, rfl, hc7, hs7⟩, hb7⟩
    refine ⟨_, rfl, ?_⟩
    have hbz : Below w.heap.size w w7 := HB1.out.trans ((hw'.trans (hb7.mono hw'.size)).mono HB1.out.size)
    have HBZ := Lib.hid hbz; have HS7 := Lib.hid hs7
    clear hbz hs7 hb7 hw'
    simp only [Act.put, List.setIfInBounds_toArray, List.set_cons_succ, List.set_cons_zero]
    iterate 4 (go_big_quiet_step ((intro hb; rfl)))
    refine wpQuiet_nil ?_
    go_wp2
    go_ret2
    exact ⟨⟨A7, c7, rfl, hc7, HS7.out⟩, HBZ.out⟩
end
section
open Go.RowKit
set_option maxRecDepth 100000
set_option maxHeartbeats 1000000
set_option linter.unusedVariables false
abbrev tg0 (t : List UInt8) : Tg := ⟨t, 0, [], [], []⟩
def ztg : Array Value := (tcell (tg0 zs20)).toArray
theorem ztglit : (#[.int .u8 0, .int .u8 0, .int .u8 0, .int .u8 0, .int .u8 0, .int .u8 0, .int .u8 0, .int .u8 0, .int .u8 0, .int .u8 0, .int .u8 0, .int .u8 0, .int .u8 0, .int .u8 0, .int .u8 0, .int .u8 0, .int .u8 0, .int .u8 0, .int .u8 0, .int .u8 0, .int .i64 0, .string ⟨#[]⟩, .string ⟨#[]⟩, .string ⟨#[]⟩] : Array Value) = ztg := rfl
theorem tcell_one {k : Tg} : (tcell k).toArray.all (·.oneCell') = true := by
  simp only [tcell, List.all_toArray, List.all_append, Bool.and_eq_true]
  refine ⟨?_, by simp only [List.all_cons, List.all_nil]; rfl⟩
  have := one_bvs k.object
  simpa using this
theorem infoT {k : Tg} (h : k.object.length = 20) : (Tryz.prog.info? 47).map (·.size) = some (tcell k).toArray.size := by
  rw [show (tcell k).toArray.size = 24 by simp [tcell_len h]]
  kernel_rfl
theorem ztg_size {k : Tg} (h : k.object.length = 20) : ztg.size = (tcell k).toArray.size := by
  rw [show (tcell k).toArray.size = 24 by simp [tcell_len h]]; rfl
theorem builtT20 (a0 a1 a2 a3 a4 a5 a6 a7 a8 a9 b0 b1 b2 b3 b4 b5 b6 b7 b8 b9 : UInt8) : Tryz.prog.built 47 [(0, idv [a0, a1, a2, a3, a4, a5, a6, a7, a8, a9, b0, b1, b2, b3, b4, b5, b6, b7, b8, b9])] = some (tcell (tg0 [a0, a1, a2, a3, a4, a5, a6, a7, a8, a9, b0, b1, b2, b3, b4, b5, b6, b7, b8, b9])).toArray := by kernel_rfl
theorem builtT (id : List UInt8) (h : id.length = 20) : Tryz.prog.built 47 [(0, idv id)] = some (tcell (tg0 id)).toArray :=
  match id, h with
  | [a0, a1, a2, a3, a4, a5, a6, a7, a8, a9, b0, b1, b2, b3, b4, b5, b6, b7, b8, b9], _ => builtT20 a0 a1 a2 a3 a4 a5 a6 a7 a8 a9 b0 b1 b2 b3 b4 b5 b6 b7 b8 b9
theorem wpList_buildT {ops : Array Oper} {rest : List Oper} {o : Oper} {a : Act} {w : World} {Q : Exit → Act → World → Prop} (hg : o.guard = none) (x : Operand) (ho : o.op = .build 47 #[(0, x)])
    (id : List UInt8) (hid : id.length = 20) (hx : a.eval x = idv id) (h : wpList Tryz.prog ops Q rest (a.put o.dst (tv (tg0 id))) w) : wpList Tryz.prog ops Q (o :: rest) a w := by
  refine wpList_plain hg fun K hK => ?_
  have hr := run_build (P := Tryz.prog) w 47 #[(0, idv id)] _ (builtT id hid)
  unfold Oper.wp
  simp [execOp, ho, hx, hr, Result.andThen]
  exact hK _ _ h
theorem zeroT : Tryz.prog.built 47 [] = some ztg := by kernel_rfl
theorem wpList_buildT0 {ops : Array Oper} {rest : List Oper} {o : Oper} {a : Act} {w : World} {Q : Exit → Act → World → Prop} (hg : o.guard = none) (ho : o.op = .build 47 #[])
    (h : wpList Tryz.prog ops Q rest (a.put o.dst (.agg ztg)) w) : wpList Tryz.prog ops Q (o :: rest) a w := by
  refine wpList_plain hg fun K hK => ?_
  have hr := run_build (P := Tryz.prog) w 47 #[] _ zeroT
  unfold Oper.wp
  simp [execOp, ho, hr, Result.andThen]
  exact hK _ _ h
/-- what DecodeTag hands back -/
def OutT (c : Tg) (e : Nat) (w : World) (z : Ending) (w' : World) : Prop := z = .returned (.tuple #[tv c, .int .i64 (e : Int)]) ∧ Below w.heap.size w w'
theorem noTg_eq : noTg = tg0 zs20 := rfl
theorem decT_long (b : List UInt8) (hb : b.length ≤ 1073741824) (h : 16384 < b.length) (A : Option Addr) (cap : Nat) (w : World) :
    Calls Tryz.prog 33 #[.slice A b.length cap] w (OutT (decT b).1 (decT b).2 w) := by
  have e : Hid (decT b = (noTg, 5)) := Lib.hid (if_pos h)
  have zi := Lib.hid (infoT (k := tg0 zs20) zs20_len)
  have zz : Hid (ztg.all (·.oneCell') = true) := Lib.hid (by kernel_rfl)
  go_enter Tryz.func33, Tryz.ntmps33
  go_upto_region 1 with fail
  simp only [ztglit]
  go_wp2_with (first
    | (refine wpList_buildT0 rfl rfl ?_)
    | (refine wpList_store_row rfl 47 (.tmp 2) (.tmp 9) rfl w.heap.size ztg rfl rfl 47 ztg (heap_alloc_new _ _) zi.out rfl zz.out ?_))
  refine bodyPost_ret (results_cell_tmp1 rfl _ _ w.heap.size 47 ztg (0, 0) _ rfl (setRow_heap _ _ _ _ _ _ (heap_alloc_new _ _)) Tryz.underlying47 rfl zi.out) rfl ?_
  rw [e.out]
  exact ⟨rfl, below_setRow ((Below.refl _ _).alloc (Nat.le_refl _) _) _ (Nat.le_refl _) _⟩
theorem tcell_set {t n g m : List UInt8} (h : t.length = 20) (k k' : Int) (x : List UInt8) : (tcell ⟨t, k, n, g, m⟩).toArray.setIfInBounds 20 (.int .i64 k') = (tcell ⟨t, k', n, g, m⟩).toArray ∧ (tcell ⟨t, k, n, g, m⟩).toArray.setIfInBounds 21 (.string (bstr x)) = (tcell ⟨t, k, x, g, m⟩).toArray ∧
    (tcell ⟨t, k, n, g, m⟩).toArray.setIfInBounds 22 (.string (bstr x)) = (tcell ⟨t, k, n, x, m⟩).toArray ∧ (tcell ⟨t, k, n, g, m⟩).toArray.setIfInBounds 23 (.string (bstr x)) = (tcell ⟨t, k, n, g, x⟩).toArray := by
  have hl : (bvs t).length = 20 := by simp [h]
  refine ⟨?_, ?_, ?_, ?_⟩ <;> (apply Array.ext'; rw [Array.toList_setIfInBounds]; simp only [tcell]; rw [List.set_append_right _ _ (by rw [hl]; decide), hl]; rfl)
theorem tcell_sz {k : Tg} (h : k.object.length = 20) {j : Nat} (hj : j < 24) : j < (tcell k).toArray.size := by
  rw [show (tcell k).toArray.size = 24 by simp [tcell_len h]]; exact hj
theorem decT_any (b : List UInt8) (hb : b.length ≤ 12000) (A : Option Addr) (cap : Nat) (w : World) (hg : Gb w) (hA : Bs w A b) :
    Calls Tryz.prog 33 #[.slice A b.length cap] w (OutT (decT b).1 (decT b).2 w) := by
  obtain ⟨n, hn⟩ : ∃ n, n = b.length := ⟨_, rfl⟩
  rw [← hn]
  have hn1 : n ≤ 12000 := by omega
  obtain ⟨W0, hW0⟩ : ∃ W0, W0 = w.alloc (.cells ztg 47) := ⟨_, rfl⟩
  have b0 : Below w.heap.size w W0 := by rw [hW0]; exact (Below.refl _ _).alloc (Nat.le_refl _) _
  have r0 : W0.heap[w.heap.size]? = some (.cells ztg 47 (0, 0)) := by rw [hW0]; exact heap_alloc_new _ _
  have hcv := conv34 (c := cap) (hA.below b0) hn
  have hs0 : W0.heap.size = w.heap.size + 1 := by rw [hW0]; simp
  obtain ⟨g, hgg⟩ : ∃ g, g = W0.heap.size := ⟨_, rfl⟩
  obtain ⟨W1, hW1⟩ : ∃ W1, W1 = W0.alloc (.cells #[.string (bstr b), .bool false] 128) := ⟨_, rfl⟩
  have b01 : Below W0.heap.size W0 W1 := by rw [hW1]; exact (Below.refl _ _).alloc (Nat.le_refl _) _
  have b1 := b0.trans (b01.mono b0.size)
  have l1 : LRow W1 g ⟨b, false⟩ := by rw [hW1, hgg]; exact heap_alloc_new _ _
  have r1 := (b01.block _ (Array.getElem?_eq_some_iff.1 r0).1).trans r0
  have g1 : w.heap.size < g := by omega
  obtain ⟨t, ht⟩ : ∃ t, t = mustI ⟨b, false⟩ wObject := ⟨_, rfl⟩
  obtain ⟨i, hi⟩ : ∃ i, i = idI t.2 t.1 := ⟨_, rfl⟩
  obtain ⟨k, hk⟩ : ∃ k, k = mustI i.2 wType := ⟨_, rfl⟩
  obtain ⟨m, hm⟩ : ∃ m, m = mustI k.2 wTag := ⟨_, rfl⟩
  obtain ⟨x, hx⟩ : ∃ x, x = mustI m.2 wTagger := ⟨_, rfl⟩
  obtain ⟨em, hem⟩ : ∃ em, em = emptyI x.2 := ⟨_, rfl⟩
  have htl : t.2.s.length ≤ b.length ∧ t.1.length ≤ b.length := by rw [ht]; exact must_len ⟨b, false⟩ wObject
  have hil : i.2.s.length ≤ b.length ∧ i.1.length = 20 := by
    rw [hi]
    exact ⟨htl.1, parseI_len _⟩
  have hkl : k.2.s.length ≤ i.2.s.length ∧ k.1.length ≤ i.2.s.length := by rw [hk]; exact must_len i.2 wType
  have hml : m.2.s.length ≤ k.2.s.length ∧ m.1.length ≤ k.2.s.length := by rw [hm]; exact must_len k.2 wTag
  have hxl : x.2.s.length ≤ m.2.s.length ∧ x.1.length ≤ m.2.s.length := by rw [hx]; exact must_len m.2 wTagger
  have km : ∀ w, Gb w → LRow w g ⟨b, false⟩ → Calls Tryz.prog 74 #[.pointer (some ⟨g, 0, none⟩), .string ⟨#[111, 98, 106, 101, 99, 116, 32]⟩] w fun e w' => e = .returned (.string (bstr t.1)) ∧ LRow w' g t.2 ∧ Kp (fun k => k = g) w w' := fun w hg hr => by
    have := lmust_any g ⟨b, false⟩ wObject (by show b.length ≤ _; omega) w hg hr
    rw [← ht] at this
    exact this
  have ki : ∀ w, LRow w g t.2 → Calls Tryz.prog 73 #[.pointer (some ⟨g, 0, none⟩), .string (bstr t.1)] w fun e w' => e = .returned (idv i.1) ∧ LRow w' g i.2 ∧ Kp (fun k => k = g) w w' := fun w hr => by
    have := idl_any g t.2 t.1 (by omega) w hr
    rw [← hi] at this
    exact this
  have kk : ∀ w, Gb w → LRow w g i.2 → Calls Tryz.prog 74 #[.pointer (some ⟨g, 0, none⟩), .string ⟨#[116, 121, 112, 101, 32]⟩] w fun e w' => e = .returned (.string (bstr k.1)) ∧ LRow w' g k.2 ∧ Kp (fun k => k = g) w w' := fun w hg hr => by
    have := lmust_any g i.2 wType (by omega) w hg hr
    rw [← hk] at this
    exact this
  have kn : ∀ w, Gb w → LRow w g k.2 → Calls Tryz.prog 74 #[.pointer (some ⟨g, 0, none⟩), .string ⟨#[116, 97, 103, 32]⟩] w fun e w' => e = .returned (.string (bstr m.1)) ∧ LRow w' g m.2 ∧ Kp (fun k => k = g) w w' := fun w hg hr => by
    have := lmust_any g k.2 wTag (by omega) w hg hr
    rw [← hm] at this
    exact this
  have kx : ∀ w, Gb w → LRow w g m.2 → Calls Tryz.prog 74 #[.pointer (some ⟨g, 0, none⟩), .string ⟨#[116, 97, 103, 103, 101, 114, 32]⟩] w fun e w' => e = .returned (.string (bstr x.1)) ∧ LRow w' g x.2 ∧ Kp (fun k => k = g) w w' := fun w hg hr => by
    have := lmust_any g m.2 wTagger (by omega) w hg hr
    rw [← hx] at this
    exact this
  have ke : ∀ w, Gb w → LRow w g x.2 → Calls Tryz.prog 76 #[.pointer (some ⟨g, 0, none⟩)] w fun e w' => e = .returned (.tuple #[]) ∧ LRow w' g em ∧ Kp (fun k => k = g) w w' := fun w hg hr => by
    have := lempty_any g x.2 (by omega) w hg hr
    rw [← hem] at this
    exact this
  obtain ⟨kd, hkd⟩ : ∃ kd, kd = kindI k.1 := ⟨_, rfl⟩
  have kq := fun w => okind_any k.1 w
  rw [← hkd] at kq
  obtain ⟨T, hT⟩ : ∃ T : Tg, T = ⟨i.1, ((kd.1 : Nat) : Int), m.1, x.1, em.s⟩ := ⟨_, rfl⟩
  have hdec : decT b = if (em.bad || wrongT T) = true then (noTg, 2) else (T, 0) := by
    have hraw : decTraw b = (T, em) := by rw [hT, hkd, hem, hx, hm, hk, hi, ht]; rfl
    unfold decT; rw [if_neg (by omega), hraw]
  have h20 : T.object.length = 20 := by rw [hT]; exact hil.2
  have kw := fun w => wrongT_any T h20 (by rw [hT]; dsimp only; omega) (by rw [hT]; dsimp only; omega) w
  have zc := infoT (k := tg0 i.1) hil.2
  have zs := ztg_size (k := tg0 i.1) hil.2
  have zo := tcell_one (k := tg0 i.1)
  have H20 := hil.2
  have HW0 := Lib.hid hW0; have HW1 := Lib.hid hW1; have HB1 := Lib.hid b1; have L1 := Lib.hid l1; have R1 := Lib.hid r1; have HGG := Lib.hid hgg; have HGL := Lib.hid g1; have KM := Lib.hid km; have KI := Lib.hid ki; have KN := Lib.hid kn; have KK := Lib.hid kk; have KX := Lib.hid kx; have KE := Lib.hid ke; have KQ := Lib.hid kq; have KW := Lib.hid kw
  have HG := Lib.hid hg; have HD := Lib.hid hdec; have ZC := Lib.hid zc; have ZS := Lib.hid zs; have ZO := Lib.hid zo; have HI20 := Lib.hid H20; have HT := Lib.hid hT; have HT20 := Lib.hid h20
  have CS := Lib.hid (fun n g m k k' x => tcell_set (t := i.1) (n := n) (g := g) (m := m) H20 k k' x)
  have G1W := HG.out.below b1
  clear hW0 b0 r0 hn hs0 hA hb hg hW1 b01 b1 l1 r1 hgg g1 ht hi htl hil km ki kn hdec zc zs zo H20 hk hm hx hem hkl hml hxl kk kx ke kq kw hkd hT h20
  go_enter Tryz.func33, Tryz.ntmps33
  go_upto_region 1 with fail
  simp only [ztglit]
  rw [← HW0.out]
  go_upto_region 4 with fail
  rw [← HGG.out, ← HW1.out]
  go_upto_region 5 with (first
    | (go_at_call 74; (with_reducible refine (KM.out _ G1W L1.out).mono ?_); rintro e w2 ⟨rfl, l2, k2⟩)
    | (go_at_call 73; (with_reducible refine (KI.out _ l2).mono ?_); rintro e w3 ⟨rfl, l3, k3⟩)
    | (refine wpList_buildT rfl (.tmp 17) rfl i.1 HI20.out rfl ?_)
    | (simp only [ztglit]; refine wpList_store_row rfl 47 (.tmp 5) (.tmp 18) rfl w3.heap.size (tcell (tg0 i.1)).toArray rfl rfl 47 ztg (heap_alloc_new _ _) ZC.out ZS.out ZO.out ?_))
  obtain ⟨r4, b4⟩ := new_set w3 47 ztg (tcell (tg0 i.1)).toArray
  obtain ⟨W4, hW4⟩ : ∃ W4, W4 = (w3.alloc (.cells ztg 47)).setRow w3.heap.size (tcell (tg0 i.1)).toArray := ⟨_, rfl⟩
  rw [← hW4] at r4 b4
  simp only [Act.put]
  rw [← hW4]
  obtain ⟨g5, hg5⟩ : ∃ g5, g5 = w3.heap.size := ⟨_, rfl⟩
  rw [← hg5] at r4 ⊢
  have k4 := (Kp.trans k2 k3)
  have gs1 : g < W1.heap.size := (Array.getElem?_eq_some_iff.1 L1.out).1
  have gg5 : g < g5 := by have := k4.size; omega
  have bw3 : Below w.heap.size w w3 := HB1.out.trans (k4.toBelow HB1.out.size (fun k hk e => by have := HGL.out; omega))
  have bw4 := bw3.trans (b4.mono bw3.size)
  have l4 : LRow W4 g i.2 := (b4.block g (by omega)).trans l3
  have r04 : W4.heap[w.heap.size]? = some (.cells ztg 47 (0, 0)) := by
    have h1 := HGL.out
    exact (b4.block _ (by omega)).trans ((k4.block _ (by omega) (by omega)).trans R1.out)
  have h54 : g5 + 1 ≤ W4.heap.size := by
    have := (Array.getElem?_eq_some_iff.1 r4).1
    omega
  have R4 := Lib.hid r4; have BW4 := Lib.hid bw4; have L4 := Lib.hid l4; have R04 := Lib.hid r04; have GG5 := Lib.hid gg5; have H54 := Lib.hid h54; have HG5 := Lib.hid hg5
  have G4 := HG.out.below bw4
  clear r4 b4 hW4 hg5 k4 gs1 gg5 bw3 bw4 l4 r04 h54 k2 k3 l2 l3 G1W
  go_upto_region 9 with (first
    | (go_at_call 74; (with_reducible refine (KK.out _ G4 L4.out).mono ?_); rintro e w5 ⟨rfl, l5, k5⟩
       have L5 := Lib.hid l5
       have R5 := Lib.hid ((k5.block g5 (by have := H54.out; omega) (by have := GG5.out; omega)).trans R4.out)
       clear l5)
    | (go_at_call 20; (with_reducible refine (KQ.out _).mono ?_); rintro e w5' ⟨rfl, rfl⟩)
    | (refine wpList_storeC rfl 3 (fun w => by kernel_rfl) (.tmp 25) (.tmp 23) rfl g5 20 (.int .i64 (kd.1 : Nat)) rfl rfl 47 _ R5.out (tcell_sz HI20.out (by decide)) rfl ?_
       intro w6 r6 k6 z6
       rw [(CS.out _ _ _ _ (kd.1 : Nat) []).1] at r6
       have kk6 := Lib.hid ((k5.mono (T := fun k => k = g ∨ k = g5) (fun k h => .inl h)).trans (k6.mono (fun k h => .inr h)))
       have b6 := Lib.hid (BW4.out.trans (kk6.out.toBelow BW4.out.size (fun q hq e => by have := HGL.out; have := GG5.out; omega)))
       have gw6 := HG.out.below b6.out
       have L6 : Hid (LRow w6 g k.2) := Lib.hid ((k6.block g (by have := (Array.getElem?_eq_some_iff.1 L5.out).1; omega) (by have := GG5.out; omega)).trans L5.out)
       have R6 := Lib.hid r6
       have S6 := Lib.hid (kk6.out.size)
       clear r6 k6 z6 k5)
    | (go_at_call 74; (with_reducible refine (KN.out _ gw6 L6.out).mono ?_); rintro e w7 ⟨rfl, l7, k7⟩
       have b7 := Lib.hid (b6.out.trans (k7.toBelow b6.out.size (fun q hq e => by have := HGL.out; omega)))
       have gw7 := HG.out.below b7.out
       have L7 := Lib.hid l7
       clear l7)
    | (go_at_call 74; (with_reducible refine (KX.out _ gw7 L7.out).mono ?_); rintro e w8 ⟨rfl, l8, k8⟩
       have k8' := Lib.hid (k7.trans k8)
       have R8 := Lib.hid ((k8'.out.block g5 (Array.getElem?_eq_some_iff.1 R6.out).1 (by have := GG5.out; omega)).trans R6.out)
       have L8 := Lib.hid l8
       clear l8 k7 k8)
    | (refine wpList_storeC rfl 9 (fun w => by kernel_rfl) (.tmp 30) (.tmp 27) rfl g5 21 (.string (bstr m.1)) rfl rfl 47 _ R8.out (tcell_sz HI20.out (by decide)) rfl ?_
       intro w9 r9 k9 z9
       rw [(CS.out _ _ _ _ 0 _).2.1] at r9
       have R9 := Lib.hid r9
       clear r9)
    | (refine wpList_storeC rfl 9 (fun w => by kernel_rfl) (.tmp 31) (.tmp 29) rfl g5 22 (.string (bstr x.1)) rfl rfl 47 _ R9.out (tcell_sz HI20.out (by decide)) rfl ?_
       intro w10 r10 k10 z10
       rw [(CS.out _ _ _ _ 0 _).2.2.1] at r10
       have k10' := Kp.trans k9 k10
       have l10 : Hid (LRow w10 g x.2) := Lib.hid ((k10'.block g (by have := (Array.getElem?_eq_some_iff.1 L8.out).1; omega) (by have := GG5.out; omega)).trans L8.out)
       have kk10 := Lib.hid (kk6.out.trans ((k8'.out.mono (T := fun k => k = g ∨ k = g5) (fun k h => .inl h)).trans (k10'.mono (fun k h => .inr h))))
       have b10 := Lib.hid (BW4.out.trans (kk10.out.toBelow BW4.out.size (fun q hq e => by have := HGL.out; have := GG5.out; omega)))
       have gw10 := HG.out.below b10.out
       have R10 := Lib.hid r10
       clear r10 k10' k9 k10 z9 z10)
    | (go_at_call 76
       go_loud ((with_reducible refine (KE.out _ gw10 l10.out).mono ?_); rintro e w11 ⟨rfl, l11, k11⟩
                have c11 : w11.cell? ⟨g, 0, none⟩ = some (.string (bstr em.s)) := by rw [cell_of_row _ _ _ _ _ _ l11]; rfl
                have R11 := Lib.hid ((k11.block g5 (Array.getElem?_eq_some_iff.1 R10.out).1 (by have := GG5.out; omega)).trans R10.out)))
    | (refine wpList_storeC rfl 9 (fun w => by kernel_rfl) (.tmp 38) (.tmp 37) rfl g5 23 (.string (bstr em.s)) rfl rfl 47 _ R11.out (tcell_sz HI20.out (by decide)) rfl ?_
       intro w12 r12 k12 z12
       rw [(CS.out _ _ _ _ 0 _).2.2.2] at r12
       have R12 := Lib.hid r12
       clear r12))
  have kk12 := (kk10.out.trans (k11.mono (T := fun k => k = g ∨ k = g5) (fun k h => .inl h))).trans (k12.mono (fun k h => .inr h))
  have b12 := BW4.out.trans (kk12.toBelow BW4.out.size (fun q hq e => by have := HGL.out; have := GG5.out; omega))
  have l12 : LRow w12 g em := (k12.block g (by have := (Array.getElem?_eq_some_iff.1 l11).1; omega) (by have := GG5.out; omega)).trans l11
  have z12r := (kk12.block w.heap.size (by have := HGL.out; have := GG5.out; have := H54.out; omega) (by have := HGL.out; have := GG5.out; omega)).trans R04.out
  have R12' : w12.heap[g5]? = some (.cells (tcell T).toArray 47 (0, 0)) := by rw [HT.out]; exact R12.out
  have S12 : Sl w12 (some ⟨g5, 0, none⟩) (tcell T) := Sl.of_block R12' (fun j v hj => by simpa using hj)
  have cl : w12.cell? ⟨g, 1, none⟩ = some (.bool em.bad) := by rw [cell_of_row _ _ _ _ _ _ l12]; rfl
  have lk : ∀ w', Below w12.heap.size w12 w' → (loadVar 47 ⟨g5, 0, none⟩).run Tryz.prog w' = .ok (tv T) w' := fun w' h => load_tg HT20.out (S12.below h)
  have B12 := Lib.hid b12; have Z12 := Lib.hid z12r; have LK := Lib.hid lk
  clear gw6 gw7 gw10 k11 k12 z12 l11 c11 kk12 b12 l12 z12r S12 lk G4 R12'
  cases hb : em.bad with
  | true =>
    have hd := HD.out
    rw [hb, Bool.true_or, if_pos rfl] at hd
    have HD2 := Lib.hid hd
    have zi := Lib.hid (infoT (k := tg0 zs20) zs20_len)
    have zz : Hid (ztg.all (·.oneCell') = true) := Lib.hid (by kernel_rfl)
    rw [hb] at cl
    clear hd hb KW LK
    go_wp2_with (first
      | (refine wpList_buildT0 rfl rfl ?_)
      | (refine wpList_store_row rfl 47 (.tmp 2) (.tmp 47) rfl w.heap.size ztg rfl rfl 47 ztg Z12.out zi.out rfl zz.out ?_))
    refine bodyPost_ret (results_cell_tmp1 rfl _ _ w.heap.size 47 ztg (0, 0) _ rfl (setRow_heap _ _ _ _ _ _ Z12.out) Tryz.underlying47 rfl zi.out) rfl ?_
    rw [HD2.out]
    exact ⟨rfl, below_setRow B12.out _ (Nat.le_refl _) _⟩
  | false =>
    have hd := HD.out
    have kw := KW.out w12
    rw [hb, Bool.false_or] at hd
    rw [hb] at cl
    have lk1 := LK.out w12 (Below.refl _ _)
    have zi := Lib.hid (infoT (k := tg0 zs20) zs20_len)
    have zz : Hid (ztg.all (·.oneCell') = true) := Lib.hid (by kernel_rfl)
    have zk := Lib.hid (infoT (k := T) HT20.out)
    have zl := Lib.hid (ztg_size (k := T) HT20.out)
    have zo := Lib.hid (tcell_one (k := T))
    clear hb KW
    cases hw : wrongT T with
    | true =>
      rw [hw, if_pos rfl] at hd
      rw [hw] at kw
      have HD2 := Lib.hid hd
      clear hd hw
      go_wp2_with (first
        | (refine wpList_loadG 47 (.tmp 5) rfl ⟨g5, 0, none⟩ rfl _ lk1 rfl ?_)
        | (go_at_call 71; (with_reducible refine kw.mono ?_); rintro e w13 ⟨rfl, hb13⟩
           have Z13 := Lib.hid ((hb13.block _ (Array.getElem?_eq_some_iff.1 Z12.out).1).trans Z12.out))
        | (refine wpList_buildT0 rfl rfl ?_)
        | (refine wpList_store_row rfl 47 (.tmp 2) (.tmp 47) rfl w.heap.size ztg rfl rfl 47 ztg Z13.out zi.out rfl zz.out ?_))
      refine bodyPost_ret (results_cell_tmp1 rfl _ _ w.heap.size 47 ztg (0, 0) _ rfl (setRow_heap _ _ _ _ _ _ Z13.out) Tryz.underlying47 rfl zi.out) rfl ?_
      rw [HD2.out]
      exact ⟨rfl, below_setRow (B12.out.trans (hb13.mono B12.out.size)) _ (Nat.le_refl _) _⟩
    | false =>
      rw [hw, if_neg (by decide)] at hd
      rw [hw] at kw
      have HD2 := Lib.hid hd
      clear hd hw
      go_wp2_with (first
        | (refine wpList_loadG 47 (.tmp 5) rfl ⟨g5, 0, none⟩ rfl _ lk1 rfl ?_)
        | (refine wpList_loadG 47 (.tmp 5) rfl ⟨g5, 0, none⟩ rfl _ lk2 rfl ?_)
        | (go_at_call 71; (with_reducible refine kw.mono ?_); rintro e w13 ⟨rfl, hb13⟩
           have lk2 := LK.out w13 hb13
           have Z13 := Lib.hid ((hb13.block _ (Array.getElem?_eq_some_iff.1 Z12.out).1).trans Z12.out))
        | (refine wpList_store_row rfl 47 (.tmp 2) (.tmp 48) rfl w.heap.size (tcell T).toArray rfl rfl 47 ztg Z13.out zk.out zl.out zo.out ?_))
      refine bodyPost_ret (results_cell_tmp1 rfl _ _ w.heap.size 47 (tcell T).toArray (0, 0) _ rfl (setRow_heap _ _ _ _ _ _ Z13.out) Tryz.underlying47 rfl zk.out) rfl ?_
      rw [HD2.out]
      exact ⟨rfl, below_setRow (B12.out.trans (hb13.mono B12.out.size)) _ (Nat.le_refl _) _⟩
end
section
open Go.RowKit
set_option maxRecDepth 100000
set_option maxHeartbeats 1000000
set_option linter.unusedVariables false
theorem nlO_any (w : World) : Calls Tryz.prog 70 #[] w fun e w' => e = .returned (.string (bstr [10])) ∧ Below w.heap.size w w' := by
  have hcv := conv34 (w := w.alloc (.cells #[.int .u8 10] 5)) (A := some ⟨w.heap.size, 0, none⟩) (l := [10]) (c := 1) (n := 1) (Sl.of_block (heap_alloc_new _ _) (one_byte rfl)) rfl
  go_enter Tryz.func70, Tryz.ntmps70
  go_wp2
  go_ret
  exact ⟨rfl, (Below.refl _ _).alloc (Nat.le_refl _) _⟩
theorem textI_bad {s : List UInt8} {i : Nat} {most : Nat} (hi : i < s.length) (h : s[i] = 0 ∨ s[i] = 10) : textI s most = false := by
  unfold textI
  rcases h with h | h
  · have : s.contains 0 = true := by rw [List.contains_iff_mem]; rw [← h]; exact List.getElem_mem hi
    rw [this]; simp
  · have : s.contains 10 = true := by rw [List.contains_iff_mem]; rw [← h]; exact List.getElem_mem hi
    rw [this]; simp
theorem textI_good {s : List UInt8} {most : Nat} (h0 : s ≠ []) (hm : s.length ≤ most) (h : ∀ j (hj : j < s.length), s[j] ≠ 0 ∧ s[j] ≠ 10) : textI s most = true := by
  unfold textI
  have a : s.contains 0 = false := by
    rw [Bool.eq_false_iff]
    intro hc
    rw [List.contains_iff_mem] at hc
    obtain ⟨j, hj, e⟩ := List.getElem_of_mem hc
    exact (h j hj).1 e
  have b : s.contains 10 = false := by
    rw [Bool.eq_false_iff]
    intro hc
    rw [List.contains_iff_mem] at hc
    obtain ⟨j, hj, e⟩ := List.getElem_of_mem hc
    exact (h j hj).2 e
  rw [a, b, decide_eq_true hm, show (s == []) = false by simpa using h0]
  rfl
theorem textR_any (s : List UInt8) (most : Nat) (w : World) (hs : s.length ≤ 1073741824) (hm : most ≤ 1000) : Calls Tryz.prog 68 #[.string (bstr s), .int .i64 (most : Int)] w fun e w' => e = .returned (.bool (textI s most)) ∧ w = w' := by
  have ssz : (bstr s).size = s.length := bstr_size s
  by_cases h0 : s = []
  · subst h0
    go_enter Tryz.func68, Tryz.ntmps68
    go_wp2
    go_ret
    exact ⟨rfl, rfl⟩
  · have e0 : s.isEmpty = false := by simpa using h0
    have HNE := Lib.hid h0
    clear h0
    by_cases h1 : s.length ≤ most
    · have d1 : decide ((s.length : Int) > (most : Int)) = false := decide_eq_false (by omega)
      have d2 : decide (most < s.length) = false := decide_eq_false (by omega)
      have d3 : s.length ≤ most := h1
      have H1 := Lib.hid h1
      clear h1
      go_enter Tryz.func68, Tryz.ntmps68
      go_wp2
      go_loopw [5] (fun t5 wr => ∃ i : Nat, t5 = .int .i64 (i : Int) ∧ i ≤ s.length ∧ Hid (∀ j (hj : j < s.length), j < i → s[j] ≠ 0 ∧ s[j] ≠ 10) ∧ wr = w) (fun t5 _ => (s.length - intOf t5).toNat)
      case atStart => exact ⟨0, rfl, by omega, Lib.hid (fun j hj h => by omega), rfl⟩
      case round =>
        obtain ⟨i, rfl, hi, HT, rfl⟩ := hrel
        by_cases hil : i < s.length
        · obtain ⟨c, hc⟩ : ∃ c, c = s[i] := ⟨_, rfl⟩
          have hcl := c.toNat_lt
          have hin := idx_str s i hil wr
          rw [← hc] at hin
          by_cases hc0 : c = 0
          · have HB := Lib.hid (textI_bad (most := most) hil (.inl (by rw [← hc]; exact hc0)))
            have q0 : ((c.toNat : Int) == 0) = true := by rw [hc0]; rfl
            clear hc0 hc
            go_wp2
            go_ret
            exact ⟨by rw [HB.out]; rfl, rfl⟩
          · have q0 : ((c.toNat : Int) == 0) = false := by
              simp only [beq_eq_false_iff_ne, ne_eq]
              intro e
              exact hc0 (UInt8.toNat_inj.1 (by show c.toNat = 0; omega))
            by_cases hc1 : c = 10
            · have HB := Lib.hid (textI_bad (most := most) hil (.inr (by rw [← hc]; exact hc1)))
              have q1 : ((c.toNat : Int) == 10) = true := by rw [hc1]; rfl
              clear hc0 hc1 hc
              go_wp2
              go_ret
              exact ⟨by rw [HB.out]; rfl, rfl⟩
            · have q1 : ((c.toNat : Int) == 10) = false := by
                simp only [beq_eq_false_iff_ne, ne_eq]
                intro e
                exact hc1 (UInt8.toNat_inj.1 (by show c.toNat = 10; omega))
              have HT2 : Hid (∀ j (hj : j < s.length), j < i + 1 → s[j] ≠ 0 ∧ s[j] ≠ 10) := Lib.hid (fun j hj h => by
                by_cases e : j = i
                · subst e; rw [← hc]; exact ⟨hc0, hc1⟩
                · exact HT.out j hj (by omega))
              clear hc0 hc1 hc HT
              go_wp2
              go_roundw
              case rel => exact ⟨i + 1, by simp, by omega, HT2, trivial⟩
              case measure => simp only [intOf]; omega
        · have HB := Lib.hid (textI_good (most := most) HNE.out H1.out (fun j hj => HT.out j hj (by omega)))
          have hle : s.length ≤ i := by omega
          go_wp2
          go_ret
          exact ⟨by rw [HB.out]; rfl, rfl⟩
    · have d1 : decide ((s.length : Int) > (most : Int)) = true := decide_eq_true (by omega)
      have d2 : decide (most < s.length) = true := decide_eq_true (by omega)
      have d3 : most < s.length := by omega
      have HB : Hid (textI s most = false) := Lib.hid (by unfold textI; rw [decide_eq_false h1]; simp)
      clear h1
      go_enter Tryz.func68, Tryz.ntmps68
      go_wp2
      go_ret
      exact ⟨by rw [HB.out]; rfl, rfl⟩
theorem nodup_bad {l : List (List UInt8)} {i k : Nat} (hk : k < i) (hi : i < l.length) (h : l.getD i [] = l.getD k []) : ¬ l.Nodup := by
  intro hn
  refine List.pairwise_iff_getElem.1 hn k i (by omega) hi hk ?_
  simpa [List.getD_eq_getElem?_getD, List.getElem?_eq_getElem hi, List.getElem?_eq_getElem (show k < l.length by omega)] using h.symm
theorem nodup_good {l : List (List UInt8)} (h : ∀ i k, k < i → i < l.length → l.getD i [] ≠ l.getD k []) : l.Nodup := by
  rw [List.nodup_iff_pairwise_ne, List.pairwise_iff_getElem]
  intro i j hi hj hij e
  refine h j i hij hj ?_
  simp [List.getD_eq_getElem?_getD, List.getElem?_eq_getElem hi, List.getElem?_eq_getElem hj, e]
theorem twice_any (l : List (List UInt8)) (h20 : All20 l) (hn : l.length < 256) (A : Option Addr) (c : Nat) (w : World) (hA : Sl w A (idc l)) :
    Calls Tryz.prog 67 #[.slice A l.length c] w fun e w' => e = .returned (.bool (!(decide l.Nodup))) ∧ Below w.heap.size w w' := by
  obtain ⟨n, hnn⟩ : ∃ n, n = l.length := ⟨_, rfl⟩
  rw [← hnn]
  have H20 := Lib.hid h20; have HN := Lib.hid hnn; have HA := Lib.hid hA
  have hn2 : n < 256 := by rw [hnn]; exact hn
  clear h20 hnn hA hn
  go_enter Tryz.func67, Tryz.ntmps67
  go_wp2
  go_loopw [3] (fun t3 wr => ∃ i : Nat, t3 = .int .i64 (i : Int) ∧ i ≤ n ∧ Hid (∀ a b, b < a → a < i → l.getD a [] ≠ l.getD b []) ∧ Below w.heap.size w wr) (fun t3 _ => (n - intOf t3).toNat)
  case atStart => exact ⟨0, rfl, by omega, Lib.hid (fun a b h1 h2 => by omega), Below.refl _ _⟩
  case round =>
    obtain ⟨i, rfl, hi, HT, hbw⟩ := hrel
    obtain ⟨wo, rfl⟩ : ∃ wo : World, wo = wr := ⟨_, rfl⟩
    by_cases hin : i < n
    · have hil : i < l.length := by rw [← HN.out]; exact hin
      have HIL := Lib.hid hil
      obtain ⟨ad, rfl⟩ : ∃ ad, A = some ad := by
        cases A with
        | some ad => exact ⟨ad, rfl⟩
        | none =>
          have := sl_none HA.out H20.out
          rw [this] at hil
          simp at hil
      clear hil
      go_wp2
      go_loopw [4] (fun t4 w2 => ∃ k : Nat, t4 = .int .i64 (k : Int) ∧ k ≤ i ∧ Hid (∀ b, b < k → l.getD i [] ≠ l.getD b []) ∧ Below wo.heap.size wo w2) (fun t4 _ => (i - intOf t4).toNat)
      case atStart => exact ⟨0, rfl, by omega, Lib.hid (fun b h => by omega), Below.refl _ _⟩
      case round =>
        obtain ⟨k, rfl, hki, HK, hb2⟩ := hrel
        by_cases hkin : k < i
        · have hkl : k < l.length := by have := HIL.out; omega
          have hr1 := sl_row HA.out H20.out i HIL.out
          have hr2 := sl_row HA.out H20.out k hkl
          obtain ⟨x, hx⟩ : ∃ x, x = l.getD i [] := ⟨_, rfl⟩
          obtain ⟨y, hy⟩ : ∃ y, y = l.getD k [] := ⟨_, rfl⟩
          have hx20 := get20 H20.out i HIL.out
          have hy20 := get20 H20.out k hkl
          rw [← hx] at hr1 hx20
          rw [← hy] at hr2 hy20
          have hbb := hbw.trans (hb2.mono hbw.size)
          have lx : ∀ w', Below wr.heap.size wr w' → (loadVar 26 (ad.add (i * 20))).run Tryz.prog w' = .ok (idv x) w' := fun w' h => load_id22 x hx20 _ _ ((hr1.below hbb).below h)
          have ly : ∀ w', Below wr.heap.size wr w' → (loadVar 26 (ad.add (k * 20))).run Tryz.prog w' = .ok (idv y) w' := fun w' h => load_id22 y hy20 _ _ ((hr2.below hbb).below h)
          have e1 : ∀ w, (Op.equalIn 10000 26 (idv x) (idv y)).run Tryz.prog w = .ok (decide (x = y)) w := fun w => eqlIn_run 26 Tryz.underlying26 x y hx20 hy20 w
          obtain ⟨z, hz⟩ : ∃ z, z = decide (x = y) := ⟨_, rfl⟩
          rw [← hz] at e1
          have LX := Lib.hid lx; have LY := Lib.hid ly; have HX := Lib.hid hx; have HY := Lib.hid hy; have HZ := Lib.hid hz; have HKL := Lib.hid hkl; have HBB := Lib.hid hbb
          clear lx ly hx hy hz hr1 hr2 hx20 hy20 hkl hbb
          cases z with
          | true =>
            have HB : Hid ((!(decide l.Nodup)) = true) := Lib.hid (by
              rw [decide_eq_false (nodup_bad hkin HIL.out (by rw [← HX.out, ← HY.out]; exact of_decide_eq_true HZ.out.symm))]; rfl)
            go_wp2
            refine wp_region_quietC (C := fun w' => Below wr.heap.size wr w') (Below.refl _ _).drew (by kernel_rfl) (by kernel_rfl) ?_
            repeat (first
              | (refine wpQuiet_load 26 (.tmp 18) rfl (ad.add (i * 20)) rfl (idv x) LX.out _ rfl rfl ?_; simp only [List.set_cons_succ, List.set_cons_zero])
              | (refine wpQuiet_load 26 (.tmp 22) rfl (ad.add (k * 20)) rfl (idv y) LY.out _ rfl rfl ?_; simp only [List.set_cons_succ, List.set_cons_zero])
              | go_big_quiet_step ((intro hb; rfl)))
            refine wpQuiet_nil ?_
            intro w' hw'
            go_wp2
            go_ret
            exact ⟨by rw [HB.out]; rfl, HBB.out.trans (hw'.mono HBB.out.size)⟩
          | false =>
            have HK2 : Hid (∀ b, b < k + 1 → l.getD i [] ≠ l.getD b []) := Lib.hid (fun b h => by
              by_cases e : b = k
              · subst e
                rw [← HX.out, ← HY.out]
                exact of_decide_eq_false HZ.out.symm
              · exact HK.out b (by omega))
            clear HK
            go_wp2
            refine wp_region_quietC (C := fun w' => Below wr.heap.size wr w') (Below.refl _ _).drew (by kernel_rfl) (by kernel_rfl) ?_
            repeat (first
              | (refine wpQuiet_load 26 (.tmp 18) rfl (ad.add (i * 20)) rfl (idv x) LX.out _ rfl rfl ?_; simp only [List.set_cons_succ, List.set_cons_zero])
              | (refine wpQuiet_load 26 (.tmp 22) rfl (ad.add (k * 20)) rfl (idv y) LY.out _ rfl rfl ?_; simp only [List.set_cons_succ, List.set_cons_zero])
              | go_big_quiet_step ((intro hb; rfl)))
            refine wpQuiet_nil ?_
            intro w' hw'
            go_wp2
            go_roundw
            case rel => exact ⟨k + 1, by simp, by omega, HK2, hb2.trans (hw'.mono hb2.size)⟩
            case measure => simp only [intOf]; omega
        · have hke : i ≤ k := by omega
          have HT2 : Hid (∀ a b, b < a → a < i + 1 → l.getD a [] ≠ l.getD b []) := Lib.hid (fun a b h1 h2 => by
            by_cases e : a = i
            · subst e
              exact HK.out b (by omega)
            · exact HT.out a b h1 (by omega))
          clear HK HT
          go_wp2
          go_roundw
          case rel => exact ⟨i + 1, by simp, by omega, HT2, hbw.trans (hb2.mono hbw.size)⟩
          case measure => simp only [intOf]; omega
    · have hne : n ≤ i := by omega
      have HB : Hid ((!(decide l.Nodup)) = false) := Lib.hid (by
        rw [decide_eq_true (nodup_good (fun a b h1 h2 => HT.out a b h1 (by have := HN.out; omega)))]; rfl)
      go_wp2
      go_ret
      exact ⟨by rw [HB.out]; rfl, hbw⟩
end
section
open Go.RowKit
set_option maxRecDepth 100000
set_option maxHeartbeats 2000000
set_option linter.unusedVariables false
theorem tgR_eq (t : Tg) : (⟨#[111, 98, 106, 101, 99, 116, 32]⟩ ++ bstr (hexs t.object) ++ bstr [10] ++ ⟨#[116, 121, 112, 101, 32]⟩ ++ bstr (wordI t.kind) ++ bstr [10] ++ ⟨#[116, 97, 103, 32]⟩ ++ bstr t.name ++ bstr [10] ++ ⟨#[116, 97, 103, 103, 101, 114, 32]⟩ ++ bstr t.tagger ++ bstr [10] ++ bstr [10] ++ bstr t.message : ByteArray) = bstr (tgB t) := by
  apply ByteArray.ext
  simp [tgB, wObject, wType, wTag, wTagger]
theorem encTR_any (t : Tg) (h20 : t.object.length = 20) (ha : t.name.length ≤ 1000000) (hc : t.tagger.length ≤ 1000000) (hm : t.message.length ≤ 1000000) (w : World) :
    Calls Tryz.prog 27 #[tv t] w (OutB (encT t).1 (encT t).2 w) := by
  obtain ⟨W0, hW0⟩ : ∃ W0, W0 = w.alloc (.cells (tcell t).toArray 59) := ⟨_, rfl⟩
  have hb0 : Below w.heap.size w W0 := by rw [hW0]; exact (Below.refl _ _).alloc (Nat.le_refl _) _
  have S0 : Sl W0 (some ⟨w.heap.size, 0, none⟩) (tcell t) := by
    rw [hW0]
    exact Sl.of_block (heap_alloc_new _ _) (fun j v hj => by simpa using hj)
  obtain ⟨q1, q2, q3, q4⟩ := tcell_at h20
  have c1 := tg_at S0 q1; have c2 := tg_at S0 q2; have c3 := tg_at S0 q3
  rw [add_plain, Nat.zero_add] at c1 c2 c3
  have kw := fun w' => owordR_any t.kind w'
  have ka := fun w' => textR_any t.name 100 w' (by omega) (by decide)
  have kc := fun w' => textR_any t.tagger 200 w' (by omega) (by decide)
  have hW : Hid (wrongT t = ((wordI t.kind == []) || !(textI t.name 100) || !(textI t.tagger 200))) := Lib.hid rfl
  obtain ⟨e0, he0⟩ : ∃ e0, e0 = (wordI t.kind == []) := ⟨_, rfl⟩
  have he1 : (bstr (wordI t.kind) == ⟨#[]⟩) = e0 := by
    rw [he0]
    by_cases h : wordI t.kind = []
    · rw [h]; rfl
    · rw [show (wordI t.kind == []) = false by simpa using h]; exact bstr_ne h
  obtain ⟨ta, hta⟩ : ∃ ta, ta = textI t.name 100 := ⟨_, rfl⟩
  obtain ⟨tc, htc⟩ : ∃ tc, tc = textI t.tagger 200 := ⟨_, rfl⟩
  rw [← hta] at ka hW
  rw [← htc] at kc hW
  rw [← he0] at hW
  have KA : ∀ w', Calls Tryz.prog 68 #[.string (bstr t.name), .int .i64 100] w' fun e w'' => e = .returned (.bool ta) ∧ w' = w'' := ka
  have KC : ∀ w', Calls Tryz.prog 68 #[.string (bstr t.tagger), .int .i64 200] w' fun e w'' => e = .returned (.bool tc) ∧ w' = w'' := kc
  have so : ∀ w', Below W0.heap.size W0 w' → Sl w' (some ⟨w.heap.size, 0, none⟩) (bvs t.object) := fun w' h j v hj => S0.below h j v (by
    unfold tcell
    rw [List.getElem?_append_left (by have := (List.getElem?_eq_some_iff.1 hj).1; simpa using this)]
    exact hj)
  have cs : ∀ w', Below W0.heap.size W0 w' → w'.cell? ⟨w.heap.size, 20, none⟩ = some (.int .i64 t.kind) ∧ w'.cell? ⟨w.heap.size, 21, none⟩ = some (.string (bstr t.name)) ∧ w'.cell? ⟨w.heap.size, 22, none⟩ = some (.string (bstr t.tagger)) ∧ w'.cell? ⟨w.heap.size, 23, none⟩ = some (.string (bstr t.message)) := fun w' h => by
    have a1 := tg_at (S0.below h) q1; have a2 := tg_at (S0.below h) q2; have a3 := tg_at (S0.below h) q3; have a4 := tg_at (S0.below h) q4
    rw [add_plain, Nat.zero_add] at a1 a2 a3 a4
    exact ⟨a1, a2, a3, a4⟩
  have hhl : (hexs t.object).length ≤ 40 := by rw [hexs_len, h20]; omega
  have hwl := word_le t.kind
  have heq := tgR_eq t
  have hlen : (tgB t).length ≤ 1073741824 := by
    simp only [tgB, wObject, wType, wTag, wTagger, List.length_append, List.length_cons, List.length_nil]
    omega
  have kh := fun w => hexRef_any t.object w h20
  have hen : Hid (encT t = if wrongT t = true then ([], 1) else wholeI (tgB t)) := Lib.hid (by unfold encT wholeI; rfl)
  obtain ⟨hx, hhx⟩ : ∃ hx, hx = hexs t.object := ⟨_, rfl⟩
  obtain ⟨wd, hwd⟩ : ∃ wd, wd = wordI t.kind := ⟨_, rfl⟩
  rw [← hhx] at kh heq hhl
  rw [← hwd] at kw he1 he0 heq hwl
  have HW0 := Lib.hid hW0; have HB0 := Lib.hid hb0; have SO := Lib.hid so; have CS := Lib.hid cs; have HEQ := Lib.hid heq; have KH := Lib.hid kh; have HE := Lib.hid he0; have HLEN := Lib.hid hlen
  have H20 := Lib.hid h20; have HA := Lib.hid ha; have HC := Lib.hid hc; have HM := Lib.hid hm; have HHL := Lib.hid hhl; have HWL := Lib.hid hwl
  clear hW0 hb0 S0 q1 q2 q3 q4 ka kc hta htc hwd h20 ha hc hm so cs hhl hwl heq hlen kh hhx he0
  cases wd with
  | nil =>
    have hz : e0 = true := HE.out
    subst hz
    have e : Hid (encT t = ([], 1)) := Lib.hid (by rw [hen.out, hW.out]; rfl)
    clear he1 hen hW HEQ HLEN
    go_enter Tryz.func27, Tryz.ntmps27
    go_upto_region 1 with fail
    rw [← HW0.out]
    go_wp2_with (first
      | (go_at_call 17; (with_reducible refine (kw _).mono ?_); rintro e w1 ⟨rfl, rfl⟩))
    go_ret2
    rw [e.out]
    exact ⟨⟨none, 0, rfl, Nat.le_refl _, Sl.nil _ _⟩, HB0.out⟩
  | cons x l =>
    have hz : e0 = false := HE.out
    subst hz
    cases ta with
    | false =>
      have e : Hid (encT t = ([], 1)) := Lib.hid (by rw [hen.out, hW.out]; rfl)
      clear he1 hen hW HEQ HLEN
      go_enter Tryz.func27, Tryz.ntmps27
      go_upto_region 1 with fail
      rw [← HW0.out]
      go_wp2_with (first
        | (go_at_call 17; (with_reducible refine (kw _).mono ?_); rintro e w1 ⟨rfl, rfl⟩)
        | (go_at_call 68; (with_reducible refine (KA _).mono ?_); rintro e w2 ⟨rfl, rfl⟩)
        | (go_at_call 68; (with_reducible refine (KC _).mono ?_); rintro e w2 ⟨rfl, rfl⟩))
      go_ret2
      rw [e.out]
      exact ⟨⟨none, 0, rfl, Nat.le_refl _, Sl.nil _ _⟩, HB0.out⟩
    | true =>
      cases tc with
      | false =>
        have e : Hid (encT t = ([], 1)) := Lib.hid (by rw [hen.out, hW.out]; rfl)
        clear he1 hen hW HEQ HLEN
        go_enter Tryz.func27, Tryz.ntmps27
        go_upto_region 1 with fail
        rw [← HW0.out]
        go_wp2_with (first
          | (go_at_call 17; (with_reducible refine (kw _).mono ?_); rintro e w1 ⟨rfl, rfl⟩)
          | (go_at_call 68; (with_reducible refine (KA _).mono ?_); rintro e w2 ⟨rfl, rfl⟩)
          | (go_at_call 68; (with_reducible refine (KC _).mono ?_); rintro e w2 ⟨rfl, rfl⟩))
        go_ret2
        rw [e.out]
        exact ⟨⟨none, 0, rfl, Nat.le_refl _, Sl.nil _ _⟩, HB0.out⟩
      | true =>
        have e : Hid (encT t = wholeI (tgB t)) := Lib.hid (by rw [hen.out, hW.out]; rfl)
        clear hen hW
        rw [e.out]
        clear e
        go_enter Tryz.func27, Tryz.ntmps27
        go_upto_region 1 with fail
        rw [← HW0.out]
        go_upto_region 3 with (first
          | (go_at_call 17; (with_reducible refine (kw _).mono ?_); rintro e w1 ⟨rfl, rfl⟩)
          | (go_at_call 68; (with_reducible refine (KA _).mono ?_); rintro e w2 ⟨rfl, rfl⟩)
          | (go_at_call 68; (with_reducible refine (KC _).mono ?_); rintro e w2 ⟨rfl, rfl⟩))
        obtain ⟨wd, hwd⟩ : ∃ wd, wd = x :: l := ⟨_, rfl⟩
        rw [← hwd] at kw HEQ HWL ⊢
        clear hwd
        have z1 := HHL.out; have z2 := HWL.out; have z3 := HA.out; have z4 := HC.out; have z5 := HM.out
        have l0 : ∀ w', Below W0.heap.size W0 w' → (loadVar 26 ⟨w.heap.size, 0, none⟩).run Tryz.prog w' = .ok (idv t.object) w' := fun w' h => load_id22 t.object H20.out _ _ (SO.out w' h)
        have l1 : ∀ w', Below W0.heap.size W0 w' → (loadVar 3 ⟨w.heap.size, 20, none⟩).run Tryz.prog w' = .ok (.int .i64 t.kind) w' := fun w' h => load_oneC (fun w => by kernel_rfl) (CS.out w' h).1
        have l2 : ∀ w', Below W0.heap.size W0 w' → (loadVar 9 ⟨w.heap.size, 21, none⟩).run Tryz.prog w' = .ok (.string (bstr t.name)) w' := fun w' h => load_oneC (fun w => by kernel_rfl) (CS.out w' h).2.1
        have l3 : ∀ w', Below W0.heap.size W0 w' → (loadVar 9 ⟨w.heap.size, 22, none⟩).run Tryz.prog w' = .ok (.string (bstr t.tagger)) w' := fun w' h => load_oneC (fun w => by kernel_rfl) (CS.out w' h).2.2.1
        have l4 : ∀ w', Below W0.heap.size W0 w' → (loadVar 9 ⟨w.heap.size, 23, none⟩).run Tryz.prog w' = .ok (.string (bstr t.message)) w' := fun w' h => load_oneC (fun w => by kernel_rfl) (CS.out w' h).2.2.2
        have g0 : ∀ w', Below W0.heap.size W0 w' → Calls Tryz.prog 69 #[idv t.object] w' fun e w'' => e = .returned (.string (bstr hx)) ∧ Below W0.heap.size W0 w'' := fun w' h => quietB h (KH.out w')
        have g1 : ∀ w', Below W0.heap.size W0 w' → Calls Tryz.prog 17 #[.int .i64 t.kind] w' fun e w'' => e = .returned (.string (bstr wd)) ∧ Below W0.heap.size W0 w'' := fun w' h => quietS h (kw w')
        have g2 : ∀ w', Below W0.heap.size W0 w' → Calls Tryz.prog 70 #[] w' fun e w'' => e = .returned (.string (bstr [10])) ∧ Below W0.heap.size W0 w'' := fun w' h => quietB h (nlO_any w')
        have q0 := Lib.hid l0; have q1 := Lib.hid l1; have q2 := Lib.hid l2; have q3 := Lib.hid l3; have q4 := Lib.hid l4; have d0 := Lib.hid g0; have d1 := Lib.hid g1; have d2 := Lib.hid g2
        clear l0 l1 l2 l3 l4 g0 g1 g2 kw KA KC c1 c2 c3 he1
        refine wp_region_quietC (C := fun w' => Below W0.heap.size W0 w') (Below.refl _ _).drew (by kernel_rfl) (by kernel_rfl) ?_
        go_big_quiet_step ((intro hb; rfl))
        (refine wpQuiet_load 26 (.tmp 21) rfl ⟨w.heap.size, 0, none⟩ rfl (idv t.object) q0.out _ rfl rfl ?_; simp only [List.set_cons_succ, List.set_cons_zero])
        go_big_quiet_step ((intro hb; (with_reducible exact d0.out _ hb)))
        go_big_quiet_step ((intro hb; first | rfl | (rw [if_neg (by simp; omega)]; exact ⟨rfl, rfl⟩)))
        go_big_quiet_step ((intro hb; (with_reducible exact d2.out _ hb)))
        go_big_quiet_step ((intro hb; first | rfl | (rw [if_neg (by simp; omega)]; exact ⟨rfl, rfl⟩)))
        go_big_quiet_step ((intro hb; first | rfl | (rw [if_neg (by simp; omega)]; exact ⟨rfl, rfl⟩)))
        go_big_quiet_step ((intro hb; rfl))
        (refine wpQuiet_load 3 (.tmp 28) rfl ⟨w.heap.size, 20, none⟩ rfl (.int .i64 t.kind) q1.out _ rfl rfl ?_; simp only [List.set_cons_succ, List.set_cons_zero])
        go_big_quiet_step ((intro hb; (with_reducible exact d1.out _ hb)))
        go_big_quiet_step ((intro hb; first | rfl | (rw [if_neg (by simp; omega)]; exact ⟨rfl, rfl⟩)))
        go_big_quiet_step ((intro hb; (with_reducible exact d2.out _ hb)))
        go_big_quiet_step ((intro hb; first | rfl | (rw [if_neg (by simp; omega)]; exact ⟨rfl, rfl⟩)))
        go_big_quiet_step ((intro hb; first | rfl | (rw [if_neg (by simp; omega)]; exact ⟨rfl, rfl⟩)))
        go_big_quiet_step ((intro hb; rfl))
        (refine wpQuiet_load 9 (.tmp 35) rfl ⟨w.heap.size, 21, none⟩ rfl (.string (bstr t.name)) q2.out _ rfl rfl ?_; simp only [List.set_cons_succ, List.set_cons_zero])
        go_big_quiet_step ((intro hb; first | rfl | (rw [if_neg (by simp; omega)]; exact ⟨rfl, rfl⟩)))
        go_big_quiet_step ((intro hb; (with_reducible exact d2.out _ hb)))
        go_big_quiet_step ((intro hb; first | rfl | (rw [if_neg (by simp; omega)]; exact ⟨rfl, rfl⟩)))
        go_big_quiet_step ((intro hb; first | rfl | (rw [if_neg (by simp; omega)]; exact ⟨rfl, rfl⟩)))
        go_big_quiet_step ((intro hb; rfl))
        (refine wpQuiet_load 9 (.tmp 41) rfl ⟨w.heap.size, 22, none⟩ rfl (.string (bstr t.tagger)) q3.out _ rfl rfl ?_; simp only [List.set_cons_succ, List.set_cons_zero])
        go_big_quiet_step ((intro hb; first | rfl | (rw [if_neg (by simp; omega)]; exact ⟨rfl, rfl⟩)))
        go_big_quiet_step ((intro hb; (with_reducible exact d2.out _ hb)))
        go_big_quiet_step ((intro hb; first | rfl | (rw [if_neg (by simp; omega)]; exact ⟨rfl, rfl⟩)))
        go_big_quiet_step ((intro hb; (with_reducible exact d2.out _ hb)))
        go_big_quiet_step ((intro hb; first | rfl | (rw [if_neg (by simp; omega)]; exact ⟨rfl, rfl⟩)))
        go_big_quiet_step ((intro hb; rfl))
        (refine wpQuiet_load 9 (.tmp 48) rfl ⟨w.heap.size, 23, none⟩ rfl (.string (bstr t.message)) q4.out _ rfl rfl ?_; simp only [List.set_cons_succ, List.set_cons_zero])
        go_big_quiet_step ((intro hb; first | rfl | (rw [if_neg (by simp; omega)]; exact ⟨rfl, rfl⟩)))
        go_big_quiet_step ((intro hb; rfl))
        refine wpQuiet_nil ?_
        intro w9 hb9
        have b9 : Below w.heap.size w w9 := HB0.out.trans (hb9.mono HB0.out.size)
        have B9 := Lib.hid b9
        simp only [HEQ.out]
        have hlen := HLEN.out
        obtain ⟨s, hs⟩ : ∃ s, s = tgB t := ⟨_, rfl⟩
        rw [← hs] at hlen ⊢
        have HSS := Lib.hid hs
        clear HEQ HLEN hs z1 z2 z3 z4 z5 hb9 b9 q0 q1 q2 q3 q4 d0 d1 d2
        have ssz : (bstr s).size = s.length := bstr_size s
        by_cases h : 16384 < s.length
        · have e : Hid (wholeI (tgB t) = ([], 5)) := Lib.hid (by rw [← HSS.out]; exact if_pos h)
          go_wp2
          go_ret2
          rw [e.out]
          exact ⟨⟨none, 0, rfl, Nat.le_refl _, Sl.nil _ _⟩, B9.out⟩
        · have e : Hid (wholeI (tgB t) = (s, 0)) := Lib.hid (by rw [← HSS.out]; exact if_neg h)
          obtain ⟨W1, c1, hcv, hb3, hs3, hc3, _⟩ := bytes_new s w9
          have HB := Lib.hid hb3; have HS := Lib.hid hs3; have HC2 := Lib.hid hc3
          clear hb3 hs3 hc3
          go_wp2
          go_ret2
          rw [e.out]
          exact ⟨⟨_, c1, rfl, HC2.out, HS.out⟩, B9.out.trans (HB.out.mono B9.out.size)⟩
end
section
open Go.RowKit
set_option maxRecDepth 100000
set_option maxHeartbeats 2000000
set_option linter.unusedVariables false
theorem cmhR_eq (t : List UInt8) : (⟨#[116, 114, 101, 101, 32]⟩ ++ bstr (hexs t) ++ bstr [10] : ByteArray) = bstr (wTree ++ hexs t ++ [10]) := by
  apply ByteArray.ext
  simp [wTree]
theorem parR_eq (q p : List UInt8) : (bstr q ++ ⟨#[112, 97, 114, 101, 110, 116, 32]⟩ ++ bstr (hexs p) ++ bstr [10] : ByteArray) = bstr (q ++ parL p) := by
  apply ByteArray.ext
  simp [parL, wParent]
theorem cmeR_eq (q : List UInt8) (c : Cm) : (bstr q ++ ⟨#[97, 117, 116, 104, 111, 114, 32]⟩ ++ bstr c.author ++ bstr [10] ++ ⟨#[99, 111, 109, 109, 105, 116, 116, 101, 114, 32]⟩ ++ bstr c.committer ++ bstr [10] ++ bstr [10] ++ bstr c.message : ByteArray) = bstr (q ++ cmE c) := by
  apply ByteArray.ext
  simp [cmE, wAuthor, wCommitter]
theorem encCR_any (c : Cm) (h20 : c.tree.length = 20) (hp : All20 c.parents) (hn : c.parents.length < 256) (ha : c.author.length ≤ 1000000) (hc : c.committer.length ≤ 1000000) (hm : c.message.length ≤ 1000000) (A : Option Addr) (cap : Nat) (w : World) (hA : Sl w A (idc c.parents)) :
    Calls Tryz.prog 24 #[cv (ck c (.slice A c.parents.length cap))] w (OutB (encC c).1 (encC c).2 w) := by
  obtain ⟨k, hk⟩ : ∃ k, k = ck c (.slice A c.parents.length cap) := ⟨_, rfl⟩
  obtain ⟨W0, hW0⟩ : ∃ W0, W0 = w.alloc (.cells (ccell k).toArray 54) := ⟨_, rfl⟩
  have hb0 : Below w.heap.size w W0 := by rw [hW0]; exact (Below.refl _ _).alloc (Nat.le_refl _) _
  have S0 : Sl W0 (some ⟨w.heap.size, 0, none⟩) (ccell k) := by
    rw [hW0]
    exact Sl.of_block (heap_alloc_new _ _) (fun j v hj => by simpa using hj)
  have e20 : k.tree.length = 20 := by rw [hk]; exact h20
  obtain ⟨q1, q2, q3, q4⟩ := ccell_at e20
  have ktr : k.tree = c.tree := by rw [hk]
  have so : ∀ w', Below W0.heap.size W0 w' → Sl w' (some ⟨w.heap.size, 0, none⟩) (bvs c.tree) := fun w' h j v hj => S0.below h j v (by
    unfold ccell
    rw [ktr, List.getElem?_append_left (by have := (List.getElem?_eq_some_iff.1 hj).1; simpa using this)]
    exact hj)
  have cs : ∀ w', Below W0.heap.size W0 w' → w'.cell? ⟨w.heap.size, 20, none⟩ = some (.slice A c.parents.length cap) ∧ w'.cell? ⟨w.heap.size, 21, none⟩ = some (.string (bstr c.author)) ∧ w'.cell? ⟨w.heap.size, 22, none⟩ = some (.string (bstr c.committer)) ∧ w'.cell? ⟨w.heap.size, 23, none⟩ = some (.string (bstr c.message)) := fun w' h => by
    have a1 := ck_at (S0.below h) q1; have a2 := ck_at (S0.below h) q2; have a3 := ck_at (S0.below h) q3; have a4 := ck_at (S0.below h) q4
    rw [add_plain, Nat.zero_add] at a1 a2 a3 a4
    rw [hk] at a1 a2 a3 a4
    exact ⟨a1, a2, a3, a4⟩
  obtain ⟨n, hn'⟩ : ∃ n, n = c.parents.length := ⟨_, rfl⟩
  have hnb : n < 256 := by omega
  have d5 : decide ((512 : Int) < (n : Int)) = false := decide_eq_false (by omega)
  obtain ⟨nd, hnd⟩ : ∃ nd, nd = !(decide c.parents.Nodup) := ⟨_, rfl⟩
  have kt := fun w' (h : Below W0.heap.size W0 w') => twice_any c.parents hp hn A cap w' ((hA.below hb0).below h)
  have ka := fun w' => textR_any c.author 200 w' (by omega) (by decide)
  have kc := fun w' => textR_any c.committer 200 w' (by omega) (by decide)
  obtain ⟨ta, hta⟩ : ∃ ta, ta = textI c.author 200 := ⟨_, rfl⟩
  obtain ⟨tc, htc⟩ : ∃ tc, tc = textI c.committer 200 := ⟨_, rfl⟩
  have hW : Hid (wrongC c = (nd || !ta || !tc)) := Lib.hid (by
    unfold wrongC
    rw [hnd, hta, htc, decide_eq_false (by omega : ¬ 512 < c.parents.length), Bool.false_or])
  rw [← hta] at ka
  rw [← htc] at kc
  rw [← hnd, ← hn'] at kt
  rw [← hn'] at cs hk ⊢
  rw [← hk]
  have KA : ∀ w', Calls Tryz.prog 68 #[.string (bstr c.author), .int .i64 200] w' fun e w'' => e = .returned (.bool ta) ∧ w' = w'' := ka
  have KC : ∀ w', Calls Tryz.prog 68 #[.string (bstr c.committer), .int .i64 200] w' fun e w'' => e = .returned (.bool tc) ∧ w' = w'' := kc
  have hhl : (hexs c.tree).length ≤ 40 := by rw [hexs_len, h20]; omega
  have hps := parB_size c.parents hp
  have hlen : (cmB c).length ≤ 1073741824 := by
    rw [cmB_eq, List.length_append, List.length_append, hps]
    simp only [cmH, cmE, wTree, wAuthor, wCommitter, List.length_append, List.length_cons, List.length_nil]
    omega
  have kh := fun w => hexRef_any c.tree w h20
  have HW0 := Lib.hid hW0; have HB0 := Lib.hid hb0; have SO := Lib.hid so; have CS := Lib.hid cs; have KT := Lib.hid kt; have KH := Lib.hid kh; have HLEN := Lib.hid hlen; have HN := Lib.hid hn'; have HP := Lib.hid hp; have HAA := Lib.hid (hA.below hb0); have HK := Lib.hid hk
  have H20 := Lib.hid h20; have HA := Lib.hid ha; have HC := Lib.hid hc; have HM := Lib.hid hm; have HHL := Lib.hid hhl; have HPS := Lib.hid hps
  clear hW0 hb0 S0 q1 q2 q3 q4 ka kc hta htc h20 ha hc hm so cs hhl hlen kh kt hn' hk hnd hps hA hp hn e20 ktr
  cases nd with
  | true =>
    have e : Hid (encC c = ([], 1)) := Lib.hid (if_pos (by rw [hW.out]; first | rfl | (cases tc <;> rfl) | (cases ta <;> cases tc <;> rfl)))
    clear hW HLEN
    go_enter Tryz.func24, Tryz.ntmps24
    go_upto_region 1 with fail
    rw [← HW0.out]
    have cs0 := CS.out W0 (Below.refl _ _)
    obtain ⟨x1, x2, x3, x4⟩ := cs0
    go_wp2_with (first
      | (go_at_call 67; (with_reducible refine (KT.out _ (Below.refl _ _)).mono ?_); rintro e w1 ⟨rfl, hb1⟩
         obtain ⟨y1, y2, y3, y4⟩ := CS.out w1 hb1)
      | (go_at_call 68; (with_reducible refine (KA _).mono ?_); rintro e w2 ⟨rfl, rfl⟩)
      | (go_at_call 68; (with_reducible refine (KC _).mono ?_); rintro e w2 ⟨rfl, rfl⟩))
    go_ret2
    rw [e.out]
    exact ⟨⟨none, 0, rfl, Nat.le_refl _, Sl.nil _ _⟩, HB0.out.trans (hb1.mono HB0.out.size)⟩
  | false =>
    cases ta with
    | false =>
      have e : Hid (encC c = ([], 1)) := Lib.hid (if_pos (by rw [hW.out]; first | rfl | (cases tc <;> rfl) | (cases ta <;> cases tc <;> rfl)))
      clear hW HLEN
      go_enter Tryz.func24, Tryz.ntmps24
      go_upto_region 1 with fail
      rw [← HW0.out]
      have cs0 := CS.out W0 (Below.refl _ _)
      obtain ⟨x1, x2, x3, x4⟩ := cs0
      go_wp2_with (first
        | (go_at_call 67; (with_reducible refine (KT.out _ (Below.refl _ _)).mono ?_); rintro e w1 ⟨rfl, hb1⟩
           obtain ⟨y1, y2, y3, y4⟩ := CS.out w1 hb1)
        | (go_at_call 68; (with_reducible refine (KA _).mono ?_); rintro e w2 ⟨rfl, rfl⟩)
        | (go_at_call 68; (with_reducible refine (KC _).mono ?_); rintro e w2 ⟨rfl, rfl⟩))
      go_ret2
      rw [e.out]
      exact ⟨⟨none, 0, rfl, Nat.le_refl _, Sl.nil _ _⟩, HB0.out.trans (hb1.mono HB0.out.size)⟩
    | true =>
      cases tc with
      | false =>
        have e : Hid (encC c = ([], 1)) := Lib.hid (if_pos (by rw [hW.out]; first | rfl | (cases tc <;> rfl) | (cases ta <;> cases tc <;> rfl)))
        clear hW HLEN
        go_enter Tryz.func24, Tryz.ntmps24
        go_upto_region 1 with fail
        rw [← HW0.out]
        have cs0 := CS.out W0 (Below.refl _ _)
        obtain ⟨x1, x2, x3, x4⟩ := cs0
        go_wp2_with (first
          | (go_at_call 67; (with_reducible refine (KT.out _ (Below.refl _ _)).mono ?_); rintro e w1 ⟨rfl, hb1⟩
             obtain ⟨y1, y2, y3, y4⟩ := CS.out w1 hb1)
          | (go_at_call 68; (with_reducible refine (KA _).mono ?_); rintro e w2 ⟨rfl, rfl⟩)
          | (go_at_call 68; (with_reducible refine (KC _).mono ?_); rintro e w2 ⟨rfl, rfl⟩))
        go_ret2
        rw [e.out]
        exact ⟨⟨none, 0, rfl, Nat.le_refl _, Sl.nil _ _⟩, HB0.out.trans (hb1.mono HB0.out.size)⟩
      | true =>
        have e : Hid (encC c = wholeI (cmB c)) := Lib.hid (by unfold encC wholeI; rw [hW.out]; rfl)
        clear hW
        go_enter Tryz.func24, Tryz.ntmps24
        go_upto_region 1 with fail
        rw [← HW0.out]
        have cs0 := CS.out W0 (Below.refl _ _)
        obtain ⟨x1, x2, x3, x4⟩ := cs0
        go_upto_region 3 with (first
          | (go_at_call 67; (with_reducible refine (KT.out _ (Below.refl _ _)).mono ?_); rintro e w1 ⟨rfl, hb1⟩
             obtain ⟨y1, y2, y3, y4⟩ := CS.out w1 hb1)
          | (go_at_call 68; (with_reducible refine (KA _).mono ?_); rintro e w2 ⟨rfl, rfl⟩)
          | (go_at_call 68; (with_reducible refine (KC _).mono ?_); rintro e w2 ⟨rfl, rfl⟩))
        have lt : (loadVar 26 ⟨w.heap.size, 0, none⟩).run Tryz.prog w1 = .ok (idv c.tree) w1 := load_id22 c.tree H20.out _ _ (SO.out w1 hb1)
        obtain ⟨hx, hhx⟩ : ∃ hx, hx = hexs c.tree := ⟨_, rfl⟩
        have kh := KH.out
        have hhl := HHL.out
        have heq := cmhR_eq c.tree
        rw [← hhx] at kh hhl heq
        have KH2 := Lib.hid kh; have HEQ := Lib.hid heq; have HHX := Lib.hid hhx
        clear kh heq hhx KH x1 x2 x3 x4 KA KC
        go_upto_block 0 with (first
          | (refine wpList_loadG 26 (.tmp 27) rfl ⟨w.heap.size, 0, none⟩ rfl _ lt rfl ?_)
          | (go_at_call 69; (with_reducible refine (KH2.out _).mono ?_); rintro e w2 ⟨rfl, hb2⟩)
          | (go_at_call 70; (with_reducible refine (nlO_any _).mono ?_); rintro e w3 ⟨rfl, hb3⟩))
        simp only [HEQ.out]
        have b3 : Below W0.heap.size W0 w3 := hb1.trans ((hb2.trans (hb3.mono hb2.size)).mono hb1.size)
        have B3 := Lib.hid b3
        have hq0 : wTree ++ hx ++ [10] = cmH c ++ parB (c.parents.take 0) := by rw [HHX.out]; simp [cmH, parB]
        have HQ0 := Lib.hid hq0
        clear hb1 hb2 hb3 b3 lt y1 y2 y3 y4 hq0 HEQ
        go_wp2
        go_loopw [4, 5] (fun t4 t5 wr => ∃ i : Nat, t4 = .string (bstr (cmH c ++ parB (c.parents.take i))) ∧ t5 = .int .i64 (i : Int) ∧ i ≤ n ∧ Below W0.heap.size W0 wr) (fun _ t5 _ => (n - intOf t5).toNat)
        case atStart => exact ⟨0, by rw [HQ0.out], rfl, by omega, B3.out⟩
        case round =>
          obtain ⟨i, rfl, rfl, hi, hbw⟩ := hrel
          have hql : (cmH c ++ parB (c.parents.take i)).length ≤ 20000 := by
            have h1 := parB_size (c.parents.take i) (fun x hx => HP.out x (List.mem_of_mem_take hx))
            have h2 : (c.parents.take i).length ≤ i := by rw [List.length_take]; omega
            have h3 := HHL.out
            rw [List.length_append, h1]
            simp only [cmH, wTree, List.length_append, List.length_cons, List.length_nil]
            omega
          obtain ⟨q, hq⟩ : ∃ q, q = cmH c ++ parB (c.parents.take i) := ⟨_, rfl⟩
          rw [← hq] at hql ⊢
          have HQ := Lib.hid hq
          obtain ⟨y1, y2, y3, y4⟩ := CS.out wr hbw
          by_cases hin : i < n
          · have hil : i < c.parents.length := by rw [← HN.out]; exact hin
            obtain ⟨ad, rfl⟩ : ∃ ad, A = some ad := by
              cases A with
              | some ad => exact ⟨ad, rfl⟩
              | none =>
                have := sl_none HAA.out HP.out
                rw [this] at hil
                simp at hil
            have hr := sl_row HAA.out HP.out i hil
            obtain ⟨x, hx2⟩ : ∃ x, x = c.parents.getD i [] := ⟨_, rfl⟩
            have hx20 := get20 HP.out i hil
            rw [← hx2] at hr hx20
            have lx : (loadVar 26 (ad.add (i * 20))).run Tryz.prog wr = .ok (idv x) wr := load_id22 x hx20 _ _ (hr.below hbw)
            have kx := fun w => hexRef_any x w hx20
            have hxl : (hexs x).length ≤ 40 := by rw [hexs_len, hx20]; omega
            have heq := parR_eq q x
            have hnext : q ++ parL x = cmH c ++ parB (c.parents.take (i + 1)) := by rw [hq, parB_snoc _ _ hil, ← hx2, List.append_assoc]
            obtain ⟨hy, hhy⟩ : ∃ hy, hy = hexs x := ⟨_, rfl⟩
            rw [← hhy] at kx hxl heq
            have KX := Lib.hid kx; have HEQ := Lib.hid heq; have HNX := Lib.hid hnext
            clear hr hx2 kx heq hnext hhy hq hil hx20
            go_wp2_with (first
              | (refine wpList_loadG 26 (.tmp 45) rfl (ad.add (i * 20)) rfl _ lx rfl ?_)
              | (go_at_call 69; (with_reducible refine (KX.out _).mono ?_); rintro e w4 ⟨rfl, hb4⟩)
              | (go_at_call 70; (with_reducible refine (nlO_any _).mono ?_); rintro e w5 ⟨rfl, hb5⟩))
            go_roundw
            case rel =>
              repeat apply Exists.intro
              refine ⟨?_, rfl⟩
              exact ⟨i + 1, by rw [HEQ.out, HNX.out], by simp, by omega, hbw.trans ((hb4.trans (hb5.mono hb4.size)).mono hbw.size)⟩
            case measure => simp [intOf]; omega
          · obtain rfl : i = n := by omega
            have hfull : q = cmH c ++ parB c.parents := by rw [hq, HN.out, List.take_length]
            have hcmb : q ++ cmE c = cmB c := by rw [hfull, cmB_eq]
            have heq := cmeR_eq q c
            rw [hcmb] at heq
            have HEQ := Lib.hid heq
            have l2 : ∀ w', Below wr.heap.size wr w' → (loadVar 9 ⟨w.heap.size, 21, none⟩).run Tryz.prog w' = .ok (.string (bstr c.author)) w' := fun w' h => load_oneC (fun w => by kernel_rfl) (CS.out w' (hbw.trans (h.mono hbw.size))).2.1
            have l3 : ∀ w', Below wr.heap.size wr w' → (loadVar 9 ⟨w.heap.size, 22, none⟩).run Tryz.prog w' = .ok (.string (bstr c.committer)) w' := fun w' h => load_oneC (fun w => by kernel_rfl) (CS.out w' (hbw.trans (h.mono hbw.size))).2.2.1
            have l4 : ∀ w', Below wr.heap.size wr w' → (loadVar 9 ⟨w.heap.size, 23, none⟩).run Tryz.prog w' = .ok (.string (bstr c.message)) w' := fun w' h => load_oneC (fun w => by kernel_rfl) (CS.out w' (hbw.trans (h.mono hbw.size))).2.2.2
            have g2 : ∀ w', Below wr.heap.size wr w' → Calls Tryz.prog 70 #[] w' fun e w'' => e = .returned (.string (bstr [10])) ∧ Below wr.heap.size wr w'' := fun w' h => quietB h (nlO_any w')
            have q2 := Lib.hid l2; have q3 := Lib.hid l3; have q4 := Lib.hid l4; have d2 := Lib.hid g2; have HBW := Lib.hid (HB0.out.trans (hbw.mono HB0.out.size))
            have z3 := HA.out; have z4 := HC.out; have z5 := HM.out
            clear l2 l3 l4 g2 hq hfull hcmb heq hbw y2 y3 y4
            go_upto_region 8 with fail
            refine wp_region_quietC (C := fun w' => Below wr.heap.size wr w') (Below.refl _ _).drew (by kernel_rfl) (by kernel_rfl) ?_
            go_big_quiet_step ((intro hb; rfl))
            go_big_quiet_step ((intro hb; first | rfl | (rw [if_neg (by simp; omega)]; exact ⟨rfl, rfl⟩)))
            go_big_quiet_step ((intro hb; rfl))
            (refine wpQuiet_load 9 (.tmp 53) rfl ⟨w.heap.size, 21, none⟩ rfl (.string (bstr c.author)) q2.out _ rfl rfl ?_; simp only [List.set_cons_succ, List.set_cons_zero])
            go_big_quiet_step ((intro hb; first | rfl | (rw [if_neg (by simp; omega)]; exact ⟨rfl, rfl⟩)))
            go_big_quiet_step ((intro hb; (with_reducible exact d2.out _ hb)))
            go_big_quiet_step ((intro hb; first | rfl | (rw [if_neg (by simp; omega)]; exact ⟨rfl, rfl⟩)))
            go_big_quiet_step ((intro hb; first | rfl | (rw [if_neg (by simp; omega)]; exact ⟨rfl, rfl⟩)))
            go_big_quiet_step ((intro hb; rfl))
            (refine wpQuiet_load 9 (.tmp 59) rfl ⟨w.heap.size, 22, none⟩ rfl (.string (bstr c.committer)) q3.out _ rfl rfl ?_; simp only [List.set_cons_succ, List.set_cons_zero])
            go_big_quiet_step ((intro hb; first | rfl | (rw [if_neg (by simp; omega)]; exact ⟨rfl, rfl⟩)))
            go_big_quiet_step ((intro hb; (with_reducible exact d2.out _ hb)))
            go_big_quiet_step ((intro hb; first | rfl | (rw [if_neg (by simp; omega)]; exact ⟨rfl, rfl⟩)))
            go_big_quiet_step ((intro hb; (with_reducible exact d2.out _ hb)))
            go_big_quiet_step ((intro hb; first | rfl | (rw [if_neg (by simp; omega)]; exact ⟨rfl, rfl⟩)))
            go_big_quiet_step ((intro hb; rfl))
            (refine wpQuiet_load 9 (.tmp 66) rfl ⟨w.heap.size, 23, none⟩ rfl (.string (bstr c.message)) q4.out _ rfl rfl ?_; simp only [List.set_cons_succ, List.set_cons_zero])
            go_big_quiet_step ((intro hb; first | rfl | (rw [if_neg (by simp; omega)]; exact ⟨rfl, rfl⟩)))
            go_big_quiet_step ((intro hb; rfl))
            refine wpQuiet_nil ?_
            intro w9 hb9
            have b9 : Below w.heap.size w w9 := HBW.out.trans (hb9.mono HBW.out.size)
            have B9 := Lib.hid b9
            simp only [HEQ.out]
            have hlen := HLEN.out
            obtain ⟨s, hs⟩ : ∃ s, s = cmB c := ⟨_, rfl⟩
            rw [← hs] at hlen ⊢
            have HSS := Lib.hid hs
            clear HEQ hs z3 z4 z5 hb9 b9 q2 q3 q4 d2 y1
            have ssz : (bstr s).size = s.length := bstr_size s
            by_cases h : 16384 < s.length
            · have e2 : Hid (wholeI (cmB c) = ([], 5)) := Lib.hid (by rw [← HSS.out]; exact if_pos h)
              go_wp2
              go_ret2
              rw [e.out, e2.out]
              exact ⟨⟨none, 0, rfl, Nat.le_refl _, Sl.nil _ _⟩, B9.out⟩
            · have e2 : Hid (wholeI (cmB c) = (s, 0)) := Lib.hid (by rw [← HSS.out]; exact if_neg h)
              obtain ⟨W1, c1, hcv, hb3, hs3, hc3, _⟩ := bytes_new s w9
              have HB := Lib.hid hb3; have HS := Lib.hid hs3; have HC2 := Lib.hid hc3
              clear hb3 hs3 hc3
              go_wp2
              go_ret2
              rw [e.out, e2.out]
              exact ⟨⟨_, c1, rfl, HC2.out, HS.out⟩, B9.out.trans (HB.out.mono B9.out.size)⟩
end
section
open Go.RowKit
set_option maxRecDepth 100000
set_option maxHeartbeats 1000000
set_option linter.unusedVariables false
def neW (q : List (List UInt8)) : List (List UInt8) := q.filter (fun p => !(p == []))
/-- where the reference's word loop stands -/
def DatI (s : List UInt8) (i : Nat) (F : List (List UInt8)) (p : List UInt8) : Prop := (i ≤ s.length → ∃ q, sp 32 (s.take i) = q ++ [p] ∧ F = neW q) ∧ (i = s.length + 1 → F = wordsI s)
theorem DatI.start (s : List UInt8) : DatI s 0 [] [] := ⟨fun _ => ⟨[], by simp [sp], rfl⟩, fun h => by omega⟩
theorem neW_snoc (q : List (List UInt8)) (p : List UInt8) : neW (q ++ [p]) = neW q ++ (if p = [] then [] else [p]) := by
  unfold neW
  rw [List.filter_append]
  congr 1
  by_cases h : p = []
  · rw [if_pos h, h]; rfl
  · rw [if_neg h, List.filter_cons_of_pos (by simpa using h)]; rfl
theorem DatI.sign {s : List UInt8} {i : Nat} {F : List (List UInt8)} {p : List UInt8} (h : DatI s i F p) (hi : i < s.length) (hc : s[i] ≠ 32) : DatI s (i + 1) F (p ++ [s[i]]) := by
  obtain ⟨q, h1, h2⟩ := h.1 (by omega)
  refine ⟨fun _ => ⟨q, ?_, h2⟩, fun e => by omega⟩
  rw [List.take_succ_eq_append_getElem hi, sp_snoc_x hc, h1]
  simp [addL]
theorem DatI.gap {s : List UInt8} {i : Nat} {F : List (List UInt8)} {p : List UInt8} (h : DatI s i F p) (hi : i < s.length) (hc : s[i] = 32) : DatI s (i + 1) (F ++ (if p = [] then [] else [p])) [] := by
  obtain ⟨q, h1, h2⟩ := h.1 (by omega)
  refine ⟨fun _ => ⟨q ++ [p], ?_, ?_⟩, fun e => by omega⟩
  · rw [List.take_succ_eq_append_getElem hi, hc, sp_snoc_c, h1]
  · rw [neW_snoc, h2]
theorem DatI.end_ {s : List UInt8} {i : Nat} {F : List (List UInt8)} {p : List UInt8} (h : DatI s i F p) (hi : i = s.length) : DatI s (i + 1) (F ++ (if p = [] then [] else [p])) [] := by
  obtain ⟨q, h1, h2⟩ := h.1 (by omega)
  refine ⟨fun h => by omega, fun _ => ?_⟩
  rw [hi, List.take_length] at h1
  unfold wordsI
  rw [h1, h2, ← neW_snoc]
  rfl
theorem dateR_any (k : Ck) (h20 : k.tree.length = 20) (hc : k.committer.length ≤ 1000000) (w : World) :
    Calls Tryz.prog 30 #[cv k] w fun e w' => e = .returned (.int .i64 (dateI k.committer : Nat)) ∧ Below w.heap.size w w' := by
  obtain ⟨W0, hW0⟩ : ∃ W0, W0 = w.alloc (.cells (ccell k).toArray 54) := ⟨_, rfl⟩
  have hb0 : Below w.heap.size w W0 := by rw [hW0]; exact (Below.refl _ _).alloc (Nat.le_refl _) _
  have S0 : Sl W0 (some ⟨w.heap.size, 0, none⟩) (ccell k) := by
    rw [hW0]
    exact Sl.of_block (heap_alloc_new _ _) (fun j v hj => by simpa using hj)
  obtain ⟨_, _, q3, _⟩ := ccell_at h20
  have c22 : ∀ w', Below W0.heap.size W0 w' → w'.cell? ⟨w.heap.size, 22, none⟩ = some (.string (bstr k.committer)) := fun w' h => by have := ck_at (S0.below h) q3; rwa [add_plain, Nat.zero_add] at this
  obtain ⟨s, hs⟩ : ∃ s, s = k.committer := ⟨_, rfl⟩
  rw [← hs] at c22 hc ⊢
  have ssz := bstr_size s
  have hd : dateI s = if (wordsI s).length < 2 then 0 else if 10 < ((wordsI s).getD ((wordsI s).length - 2) []).length then 0 else if ((wordsI s).getD ((wordsI s).length - 2) []).all digI = true then numI ((wordsI s).getD ((wordsI s).length - 2) []) else 0 := rfl
  obtain ⟨n, hn⟩ : ∃ n, n = s.length := ⟨_, rfl⟩
  have hn2 : n ≤ 1000000 := by omega
  rw [← hn] at ssz
  have HW0 := Lib.hid hW0; have HB0 := Lib.hid hb0; have HD := Lib.hid hd; have HN := Lib.hid hn; have C22 := Lib.hid c22
  clear hW0 hb0 S0 q3 hs h20 hd hn hc c22
  go_enter Tryz.func30, Tryz.ntmps30
  go_upto_region 1 with fail
  rw [← HW0.out]
  go_wp2
  go_loopw [3, 4, 5] (fun t3 t4 t5 wr => ∃ (i : Nat) (F : List (List UInt8)) (p : List UInt8), t5 = .int .i64 (i : Int) ∧ t4 = .string (bstr p) ∧ i ≤ n + 1 ∧ F.length ≤ i ∧ p.length ≤ i ∧ Hid (Win wr W0.heap.size 9 1 t3 F.length (strs F)) ∧ Hid (DatI s i F p) ∧ Hid (∀ x ∈ F, x.length ≤ n + 1) ∧ Below W0.heap.size W0 wr) (fun _ _ t5 _ => (n + 1 - intOf t5).toNat)
  case atStart => exact ⟨0, [], [], rfl, rfl, by omega, by simp, by simp, Lib.hid (Win.nil _ _ _ _), Lib.hid (DatI.start s), Lib.hid (fun x hx => by simp at hx), Below.refl _ _⟩
  case round =>
    obtain ⟨i, F, p, rfl, rfl, hi, hFl, hpl, HW, HI, HM, hbw⟩ := hrel
    have y1 := C22.out wr hbw
    by_cases hin : i ≤ n
    · by_cases hc : i < n ∧ ∃ h : i < s.length, s[i] ≠ 32
      · obtain ⟨hlt, hil, hne⟩ := hc
        obtain ⟨x, hx⟩ : ∃ x, x = s[i] := ⟨_, rfl⟩
        have hI2 := HI.out.sign hil hne
        rw [← hx] at hI2 hne
        have hcl := x.toNat_lt
        have hidx := idx_str s i hil wr
        have hsl : ∀ w, (Instr.slice 9 (.string (bstr s)) (some (.int .i64 (i : Int))) (some (.int .i64 ((i : Int) + 1))) none).run Tryz.prog w = .ok (.string (bstr [x])) w := fun w => by
          have := str_lh s i (i + 1) (by omega) (by omega) w
          rw [Nat.add_sub_cancel_left, List.drop_eq_getElem_cons hil, ← hx] at this
          rwa [Int.natCast_add] at this
        rw [← hx] at hidx
        have hq : ((x.toNat : Int) != 32) = true := by
          simp only [bne_iff_ne, ne_eq]
          intro e
          exact hne (UInt8.toNat_inj.1 (by show x.toNat = 32; omega))
        have hadd : (bstr p ++ bstr [x] : ByteArray) = bstr (p ++ [x]) := bstr_app p [x]
        have HADD := Lib.hid hadd; have HI2 := Lib.hid hI2
        clear hne hil hx hI2 hadd HI
        go_wp2
        go_roundw
        case rel =>
          exact ⟨i + 1, F, p ++ [x], by simp, by rw [HADD.out], by omega, by omega, by simp; omega, HW, HI2, HM, hbw⟩
        case measure => simp [intOf]; omega
      · have HI2 : Hid (DatI s (i + 1) (F ++ (if p = [] then [] else [p])) []) := Lib.hid (by
          by_cases h : i < s.length
          · exact HI.out.gap h (by
              by_cases h2 : s[i] = 32
              · exact h2
              · exact absurd ⟨by rw [HN.out]; exact h, h, h2⟩ hc)
          · exact HI.out.end_ (by have := HN.out; omega))
        have hv : i < n → ∃ x : UInt8, x.toNat = 32 ∧ ∀ w, (Instr.index 9 (.string (bstr s)) (.int .i64 (i : Int))).run Tryz.prog w = .ok (.int .u8 (x.toNat : Int)) w := fun h => by
          have hil : i < s.length := by rw [← HN.out]; exact h
          refine ⟨s[i], ?_, fun w => idx_str s i hil w⟩
          by_cases h2 : s[i] = 32
          · rw [h2]; rfl
          · exact absurd ⟨h, hil, h2⟩ hc
        clear hc HI
        by_cases hlt : i < n
        · obtain ⟨y, hy, hidx⟩ := hv hlt
          have hq : ((y.toNat : Int) != 32) = false := by rw [hy]; rfl
          have hidx0 := hidx wr
          clear hv hidx hy
          cases p with
          | nil =>
            have hI2 := HI2.out
            rw [if_pos rfl, List.append_nil] at hI2
            have HI3 := Lib.hid hI2
            clear hI2 HI2
            go_wp2
            go_roundw
            case rel => exact ⟨i + 1, F, [], by simp, rfl, by omega, by omega, by simp, HW, HI3, HM, hbw⟩
            case measure => simp only [intOf]; omega
          | cons x t =>
            have hI2 := HI2.out
            rw [if_neg (by simp)] at hI2
            have HI3 := Lib.hid hI2
            have hM2 : ∀ y ∈ F ++ [x :: t], y.length ≤ n + 1 := fun y hy => by
              rcases List.mem_append.1 hy with h | h
              · exact HM.out y h
              · obtain rfl := List.mem_singleton.1 h
                omega
            have HM2 := Lib.hid hM2
            have hz : ((x :: t : List UInt8) == []) = false := by simp
            have b2 : Below wr.heap.size wr (wr.alloc (.cells #[.string (bstr (x :: t))] 9)) := (Below.refl _ _).alloc (Nat.le_refl _) _
            have own := Lib.hid (HW.out.below b2)
            have S2 : Hid (Sl (wr.alloc (.cells #[.string (bstr (x :: t))] 9)) (some ⟨wr.heap.size, 0, none⟩) (strs [x :: t])) := Lib.hid (Sl.of_block (heap_alloc_new _ _) (fun j v hj => by simpa [strs, strv] using hj))
            have hbw2 := Lib.hid (hbw.trans (b2.mono hbw.size))
            have h1 := hbw.size
            clear hI2 HI2 hM2 HM b2 HW hbw
            go_wp2_with (refine wpList_appS rfl (.tmp 38) (.tmp 40) rfl W0.heap.size _ F rfl own.out (some ⟨wr.heap.size, 0, none⟩) 1 1 [x :: t] rfl rfl S2.out (by simp; omega) (by simp; omega) ?_
                         intro v2 w2 hw2 hk2 ho2)
            go_roundw
            case rel =>
              have hb3 := hbw2.out.trans (hk2.toBelow hbw2.out.size (fun g hg e => (own.out.block g e).1 |> fun h => by omega))
              exact ⟨i + 1, F ++ [x :: t], [], by simp, rfl, by omega, by simp; omega, by simp, Lib.hid hw2, HI3, HM2, hb3⟩
            case measure => simp only [intOf]; omega
        · clear hv
          have hdl : decide ((i : Int) < (n : Int)) = false := decide_eq_false (by omega)
          cases p with
          | nil =>
            have hI2 := HI2.out
            rw [if_pos rfl, List.append_nil] at hI2
            have HI3 := Lib.hid hI2
            clear hI2 HI2
            go_wp2
            go_roundw
            case rel => exact ⟨i + 1, F, [], by simp, rfl, by omega, by omega, by simp, HW, HI3, HM, hbw⟩
            case measure => simp only [intOf]; omega
          | cons x t =>
            have hI2 := HI2.out
            rw [if_neg (by simp)] at hI2
            have HI3 := Lib.hid hI2
            have hM2 : ∀ y ∈ F ++ [x :: t], y.length ≤ n + 1 := fun y hy => by
              rcases List.mem_append.1 hy with h | h
              · exact HM.out y h
              · obtain rfl := List.mem_singleton.1 h
                omega
            have HM2 := Lib.hid hM2
            have hz : ((x :: t : List UInt8) == []) = false := by simp
            have b2 : Below wr.heap.size wr (wr.alloc (.cells #[.string (bstr (x :: t))] 9)) := (Below.refl _ _).alloc (Nat.le_refl _) _
            have own := Lib.hid (HW.out.below b2)
            have S2 : Hid (Sl (wr.alloc (.cells #[.string (bstr (x :: t))] 9)) (some ⟨wr.heap.size, 0, none⟩) (strs [x :: t])) := Lib.hid (Sl.of_block (heap_alloc_new _ _) (fun j v hj => by simpa [strs, strv] using hj))
            have hbw2 := Lib.hid (hbw.trans (b2.mono hbw.size))
            have h1 := hbw.size
            clear hI2 HI2 hM2 HM b2 HW hbw
            go_wp2_with (refine wpList_appS rfl (.tmp 38) (.tmp 40) rfl W0.heap.size _ F rfl own.out (some ⟨wr.heap.size, 0, none⟩) 1 1 [x :: t] rfl rfl S2.out (by simp; omega) (by simp; omega) ?_
                         intro v2 w2 hw2 hk2 ho2)
            go_roundw
            case rel =>
              have hb3 := hbw2.out.trans (hk2.toBelow hbw2.out.size (fun g hg e => (own.out.block g e).1 |> fun h => by omega))
              exact ⟨i + 1, F ++ [x :: t], [], by simp, rfl, by omega, by simp; omega, by simp, Lib.hid hw2, HI3, HM2, hb3⟩
            case measure => simp only [intOf]; omega
    · have hie : i = n + 1 := by omega
      have hF : F = wordsI s := HI.out.2 (by rw [hie, HN.out])
      have hd := HD.out
      have hwl : (wordsI s).length ≤ n + 1 := by rw [← hF]; omega
      have hwm : ∀ p ∈ wordsI s, p.length ≤ n + 1 := fun p hp => HM.out p (by rw [hF]; exact hp)
      rw [hF] at HW
      obtain ⟨ws, hws⟩ : ∃ ws, ws = wordsI s := ⟨_, rfl⟩
      rw [← hws] at HW hd hwl hwm
      obtain ⟨A, c, rfl, hcc, hmm, hsA⟩ := HW.out.reads
      obtain ⟨m, hm⟩ : ∃ m, m = ws.length := ⟨_, rfl⟩
      rw [← hm] at hd hwl hcc ⊢
      have hbb := HB0.out.trans (hbw.mono HB0.out.size)
      have HBB := Lib.hid hbb; have HSA := Lib.hid hsA; have HMM := Lib.hid hm; have HWM := Lib.hid hwm
      have hdl : decide ((i : Int) ≤ (n : Int)) = false := decide_eq_false (by omega)
      clear hie hF HW HD hws hbb hsA hm hwm hbw hcc hmm HI HM hFl hpl
      by_cases h2 : m < 2
      · rw [if_pos h2] at hd
        have HD := Lib.hid hd
        clear hd
        go_wp2
        go_ret
        exact ⟨by rw [HD.out]; rfl, HBB.out⟩
      · rw [if_neg h2] at hd
        obtain ⟨j, rfl⟩ : ∃ j, m = j + 2 := ⟨m - 2, by omega⟩
        rw [show j + 2 - 2 = j by omega] at hd
        have hjl : j < ws.length := by rw [← HMM.out]; omega
        obtain ⟨x, hx⟩ : ∃ x, x = ws.getD j [] := ⟨_, rfl⟩
        have hxm : x.length ≤ n + 1 := HWM.out x (by
          rw [hx, List.getD_eq_getElem?_getD, List.getElem?_eq_getElem hjl]
          exact List.getElem_mem hjl)
        rw [← hx] at hd
        obtain ⟨ad, rfl, hcell0⟩ := HSA.out j (strv x) (by rw [hx]; simp [strs, hjl])
        have hcell : wr.cell? (ad.add j) = some (.string (bstr x)) := hcell0
        have hdj : decide ((j : Int) + 2 < 2) = false := decide_eq_false (by omega)
        clear hcell0
        have hxz := bstr_size x
        by_cases h10 : 10 < x.length
        · rw [if_pos h10] at hd
          have HD := Lib.hid hd
          clear hd hx hjl hxm
          go_wp2
          go_ret
          exact ⟨by rw [HD.out]; rfl, HBB.out⟩
        · rw [if_neg h10] at hd
          have HD := Lib.hid hd
          clear hd hx hjl
          go_wp2
          obtain ⟨l, hl⟩ : ∃ l, l = x.length := ⟨_, rfl⟩
          have hl10 : l ≤ 10 := by omega
          have HL := Lib.hid hl
          rw [← hl] at hxz ⊢
          clear hl hxm
          go_loopw [7, 8] (fun t7 t8 wr' => ∃ i : Nat, t8 = .int .i64 (i : Int) ∧ i ≤ l ∧ t7 = .int .i64 (numI (x.take i) : Nat) ∧ Hid ((x.take i).all digI = true) ∧ wr' = wr) (fun _ t8 _ => (l - intOf t8).toNat)
          case atStart => exact ⟨0, rfl, by omega, rfl, Lib.hid rfl, rfl⟩
          case round =>
            obtain ⟨i, rfl, hi, rfl, HA, rfl⟩ := hrel
            by_cases hin : i < l
            · have hil : i < x.length := by rw [← HL.out]; exact hin
              have hidx := idx_str x i hil wr
              have hxt : x.take (i + 1) = x.take i ++ [x[i]] := List.take_succ_eq_append_getElem hil
              have hmem : x[i] ∈ x := List.getElem_mem hil
              have hall : x.all digI = true → digI x[i] = true := fun h => List.all_eq_true.1 h _ hmem
              obtain ⟨y, hy⟩ : ∃ y, y = x[i] := ⟨_, rfl⟩
              rw [← hy] at hidx hxt hall
              have hlt := numI_lt i (x.take i) (by rw [List.length_take]; omega) HA.out
              have hpow : (10 : Nat) ^ i ≤ 10 ^ 9 := Nat.pow_le_pow_right (by decide) (by omega)
              have hnum : numI (x.take i) < 1000000000 := Nat.lt_of_lt_of_le hlt hpow
              have hy256 := y.toNat_lt
              have HXT := Lib.hid hxt
              obtain ⟨N, hN⟩ : ∃ N, N = numI (x.take i) := ⟨_, rfl⟩
              rw [← hN] at hnum ⊢
              have HNN := Lib.hid hN
              clear hxt hmem hy hlt hpow hN hil
              by_cases h48 : y.toNat < 48
              · have hd : dateI s = 0 := by
                  rw [HD.out, if_neg (fun h => by have := hall h; unfold digI at this; simp at this; omega)]
                have HD2 := Lib.hid hd
                clear hall hd
                go_wp2
                go_ret
                exact ⟨by rw [HD2.out]; rfl, HBB.out⟩
              · by_cases h57 : 57 < y.toNat
                · have hd : dateI s = 0 := by
                    rw [HD.out, if_neg (fun h => by have := hall h; unfold digI at this; simp at this; omega)]
                  have HD2 := Lib.hid hd
                  clear hall hd
                  go_wp2
                  go_ret
                  exact ⟨by rw [HD2.out]; rfl, HBB.out⟩
                · have hdy : digI y = true := by unfold digI; simp; omega
                  have HDY := Lib.hid hdy
                  clear hall hdy
                  go_wp2
                  go_roundw
                  case rel =>
                    refine ⟨i + 1, by simp, by omega, ?_, Lib.hid (by rw [HXT.out]; simp [HA.out, HDY.out]), trivial⟩
                    rw [HXT.out, numI_snoc, ← HNN.out]
                    exact int_eq (by omega)
                  case measure => simp only [intOf]; omega
            · obtain rfl : i = l := by omega
              have hx : x.take i = x := by rw [HL.out, List.take_of_length_le (Nat.le_refl _)]
              rw [hx] at HA ⊢
              have hd : dateI s = numI x := by rw [HD.out, if_pos HA.out]
              have HD2 := Lib.hid hd
              clear hd hx HA
              go_wp2
              go_ret
              exact ⟨by rw [HD2.out]; rfl, HBB.out⟩
end
section
open Go.RowKit
set_option maxRecDepth 100000
set_option maxHeartbeats 1000000
set_option linter.unusedVariables false
theorem builtG20 (k : Int) (n g m : ByteArray) (a0 a1 a2 a3 a4 a5 a6 a7 a8 a9 b0 b1 b2 b3 b4 b5 b6 b7 b8 b9 : UInt8) : Tryz.prog.built 59 [(0, idv [a0, a1, a2, a3, a4, a5, a6, a7, a8, a9, b0, b1, b2, b3, b4, b5, b6, b7, b8, b9]), (1, .int .i64 k), (2, .string n), (3, .string g), (4, .string m)] = some (bvs [a0, a1, a2, a3, a4, a5, a6, a7, a8, a9, b0, b1, b2, b3, b4, b5, b6, b7, b8, b9] ++ [Value.int .i64 k, Value.string n, Value.string g, Value.string m] : List Value).toArray := by kernel_rfl
theorem builtG (t : Tg) (h : t.object.length = 20) : Tryz.prog.built 59 [(0, idv t.object), (1, .int .i64 t.kind), (2, .string (bstr t.name)), (3, .string (bstr t.tagger)), (4, .string (bstr t.message))] = some (tcell t).toArray := by
  obtain ⟨id, k, n, g, m⟩ := t
  dsimp only at h ⊢
  match id, h with
  | [a0, a1, a2, a3, a4, a5, a6, a7, a8, a9, b0, b1, b2, b3, b4, b5, b6, b7, b8, b9], _ => exact builtG20 k (bstr n) (bstr g) (bstr m) a0 a1 a2 a3 a4 a5 a6 a7 a8 a9 b0 b1 b2 b3 b4 b5 b6 b7 b8 b9
theorem wpList_buildG {ops : Array Oper} {rest : List Oper} {o : Oper} {a : Act} {w : World} {Q : Exit → Act → World → Prop} (hg : o.guard = none) (x0 x1 x2 x3 x4 : Operand) (ho : o.op = .build 59 #[(0, x0), (1, x1), (2, x2), (3, x3), (4, x4)])
    (t : Tg) (ht : t.object.length = 20) (h0 : a.eval x0 = idv t.object) (h1 : a.eval x1 = .int .i64 t.kind) (h2 : a.eval x2 = .string (bstr t.name)) (h3 : a.eval x3 = .string (bstr t.tagger)) (h4 : a.eval x4 = .string (bstr t.message)) (h : wpList Tryz.prog ops Q rest (a.put o.dst (tv t)) w) : wpList Tryz.prog ops Q (o :: rest) a w := by
  refine wpList_plain hg fun K hK => ?_
  have hr := run_build (P := Tryz.prog) w 59 #[(0, idv t.object), (1, .int .i64 t.kind), (2, .string (bstr t.name)), (3, .string (bstr t.tagger)), (4, .string (bstr t.message))] _ (builtG t ht)
  unfold Oper.wp
  simp [execOp, ho, h0, h1, h2, h3, h4, hr, Result.andThen]
  exact hK _ _ h
theorem infoG {k : Tg} (h : k.object.length = 20) : (Tryz.prog.info? 59).map (·.size) = some (tcell k).toArray.size := by
  rw [show (tcell k).toArray.size = 24 by simp [tcell_len h]]
  kernel_rfl
theorem tag_any (t : Tg) (h20 : t.object.length = 20) (w : World) : Calls Tryz.prog 28 #[tv t] w fun e w' => e = .returned (tv t) ∧ Below w.heap.size w w' := by
  obtain ⟨W0, hW0⟩ : ∃ W0, W0 = w.alloc (.cells (tcell t).toArray 47) := ⟨_, rfl⟩
  have hb0 : Below w.heap.size w W0 := by rw [hW0]; exact (Below.refl _ _).alloc (Nat.le_refl _) _
  have S0 : Sl W0 (some ⟨w.heap.size, 0, none⟩) (tcell t) := by
    rw [hW0]
    exact Sl.of_block (heap_alloc_new _ _) (fun j v hj => by simpa using hj)
  obtain ⟨W1, hW1⟩ : ∃ W1, W1 = W0.alloc (.cells ztg 59) := ⟨_, rfl⟩
  have hb1 : Below W0.heap.size W0 W1 := by rw [hW1]; exact (Below.refl _ _).alloc (Nat.le_refl _) _
  have r1 : W1.heap[W0.heap.size]? = some (.cells ztg 59 (0, 0)) := by rw [hW1]; exact heap_alloc_new _ _
  rw [show W0.heap.size = w.heap.size + 1 by rw [hW0]; simp] at r1
  obtain ⟨q1, q2, q3, q4⟩ := tcell_at h20
  have S1 := S0.below hb1
  have a1 := tg_at S1 q1; have a2 := tg_at S1 q2; have a3 := tg_at S1 q3; have a4 := tg_at S1 q4
  rw [add_plain, Nat.zero_add] at a1 a2 a3 a4
  have so : Sl W1 (some ⟨w.heap.size, 0, none⟩) (bvs t.object) := fun j v hj => S1 j v (by
    unfold tcell
    rw [List.getElem?_append_left (by have := (List.getElem?_eq_some_iff.1 hj).1; simpa using this)]
    exact hj)
  have lt := load_id t.object h20 _ _ so
  have zi := Lib.hid (infoG h20)
  have zs := Lib.hid (ztg_size h20)
  have HW0 := Lib.hid hW0; have HW1 := Lib.hid hW1; have H20 := Lib.hid h20; have R1 := Lib.hid r1
  have HB := Lib.hid (hb0.trans (hb1.mono hb0.size))
  clear hW0 hW1 hb0 hb1 S0 S1 r1 q1 q2 q3 q4 so h20
  go_enter Tryz.func28, Tryz.ntmps28
  go_upto_region 1 with fail
  simp only [ztglit]
  rw [← HW0.out, ← HW1.out]
  go_wp2_with (first
    | (refine wpList_loadG 27 (.tmp 3) rfl ⟨w.heap.size, 0, none⟩ rfl _ lt rfl ?_)
    | (refine wpList_buildG rfl (.tmp 4) (.tmp 6) (.tmp 8) (.tmp 10) (.tmp 12) rfl t H20.out rfl rfl rfl rfl rfl ?_)
    | (refine wpList_store_row rfl 59 (.tmp 2) (.tmp 13) rfl (w.heap.size + 1) (tcell t).toArray rfl rfl 59 ztg R1.out zi.out zs.out tcell_one ?_))
  refine bodyPost_ret (results_cell_row rfl _ _ (w.heap.size + 1) 59 (tcell t).toArray (0, 0) _ rfl (setRow_heap _ _ _ _ _ _ R1.out) Tryz.underlying59 rfl zi.out) rfl ?_
  exact ⟨rfl, below_setRow HB.out _ (by omega) _⟩
end
section
open Go.RowKit
set_option maxRecDepth 100000
set_option maxHeartbeats 1000000
set_option linter.unusedVariables false
theorem sameC_any (c : Cm) (h20 : c.tree.length = 20) (hp : All20 c.parents) (hn : c.parents.length < 256) (A B : Option Addr) (m n : Nat) (w : World) (hA : Sl w A (idc c.parents)) (hB : Sl w B (idc c.parents)) :
    Calls Tryz.prog 32 #[cv (ck c (.slice A c.parents.length m)), cv (ck c (.slice B c.parents.length n))] w fun e w' => e = .returned (.bool true) ∧ Below w.heap.size w w' := by
  obtain ⟨k, hk⟩ : ∃ k, k = ck c (.slice A c.parents.length m) := ⟨_, rfl⟩
  obtain ⟨j, hj⟩ : ∃ j, j = ck c (.slice B c.parents.length n) := ⟨_, rfl⟩
  rw [← hk, ← hj]
  obtain ⟨W0, hW0⟩ : ∃ W0, W0 = w.alloc (.cells (ccell k).toArray 45) := ⟨_, rfl⟩
  have hb0 : Below w.heap.size w W0 := by rw [hW0]; exact (Below.refl _ _).alloc (Nat.le_refl _) _
  have S0 : Sl W0 (some ⟨w.heap.size, 0, none⟩) (ccell k) := by
    rw [hW0]
    exact Sl.of_block (heap_alloc_new _ _) (fun j v hj => by simpa using hj)
  obtain ⟨W1, hW1⟩ : ∃ W1, W1 = W0.alloc (.cells (ccell j).toArray 54) := ⟨_, rfl⟩
  have hb1 : Below W0.heap.size W0 W1 := by rw [hW1]; exact (Below.refl _ _).alloc (Nat.le_refl _) _
  have hz1 : W0.heap.size = w.heap.size + 1 := by rw [hW0]; simp
  have T1 : Sl W1 (some ⟨w.heap.size + 1, 0, none⟩) (ccell j) := by
    rw [hW1, ← hz1]
    exact Sl.of_block (heap_alloc_new _ _) (fun j v hj => by simpa using hj)
  have S1 := S0.below hb1
  have ek : k.tree.length = 20 := by rw [hk]; exact h20
  have ej : j.tree.length = 20 := by rw [hj]; exact h20
  have hb : Below w.heap.size w W1 := hb0.trans (hb1.mono hb0.size)
  obtain ⟨q1, q2, q3, q4⟩ := ccell_at ek
  obtain ⟨p1, p2, p3, p4⟩ := ccell_at ej
  have cs : ∀ w', Below W1.heap.size W1 w' → w'.cell? ⟨w.heap.size, 20, none⟩ = some (.slice A c.parents.length m) ∧ w'.cell? ⟨w.heap.size, 21, none⟩ = some (.string (bstr c.author)) ∧ w'.cell? ⟨w.heap.size, 22, none⟩ = some (.string (bstr c.committer)) ∧ w'.cell? ⟨w.heap.size, 23, none⟩ = some (.string (bstr c.message)) ∧
      w'.cell? ⟨w.heap.size + 1, 20, none⟩ = some (.slice B c.parents.length n) ∧ w'.cell? ⟨w.heap.size + 1, 21, none⟩ = some (.string (bstr c.author)) ∧ w'.cell? ⟨w.heap.size + 1, 22, none⟩ = some (.string (bstr c.committer)) ∧ w'.cell? ⟨w.heap.size + 1, 23, none⟩ = some (.string (bstr c.message)) := fun w' h => by
    have a1 := ck_at (S1.below h) q1; have a2 := ck_at (S1.below h) q2; have a3 := ck_at (S1.below h) q3; have a4 := ck_at (S1.below h) q4
    have d1 := ck_at (T1.below h) p1; have d2 := ck_at (T1.below h) p2; have d3 := ck_at (T1.below h) p3; have d4 := ck_at (T1.below h) p4
    rw [add_plain, Nat.zero_add] at a1 a2 a3 a4 d1 d2 d3 d4
    rw [hk] at a1 a2 a3 a4
    rw [hj] at d1 d2 d3 d4
    exact ⟨a1, a2, a3, a4, d1, d2, d3, d4⟩
  have sk : Sl W1 (some ⟨w.heap.size, 0, none⟩) (bvs c.tree) := fun i v hv => S1 i v (by
    unfold ccell
    rw [show k.tree = c.tree by rw [hk], List.getElem?_append_left (by have := (List.getElem?_eq_some_iff.1 hv).1; simpa using this)]
    exact hv)
  have sj : Sl W1 (some ⟨w.heap.size + 1, 0, none⟩) (bvs c.tree) := fun i v hv => T1 i v (by
    unfold ccell
    rw [show j.tree = c.tree by rw [hj], List.getElem?_append_left (by have := (List.getElem?_eq_some_iff.1 hv).1; simpa using this)]
    exact hv)
  have l1 := load_id c.tree h20 _ _ sk
  have l2 := load_id22 c.tree h20 _ _ sj
  have e1 : ∀ w, (Op.equalIn 10000 27 (idv c.tree) (idv c.tree)).run Tryz.prog w = .ok true w := fun w => by
    have := eqlIn_run 27 Tryz.underlying27 c.tree c.tree h20 h20 w
    rwa [decide_eq_true rfl] at this
  have kq : Calls Tryz.prog 41 #[.slice A c.parents.length m, .slice B c.parents.length n] W1 fun e w' => e = .returned (.bool true) ∧ Below W1.heap.size W1 w' := by
    have := same_any c.parents c.parents hp hp hn hn A B m n W1 (hA.below hb) (hB.below hb)
    rwa [decide_eq_true rfl] at this
  obtain ⟨y1, y2, y3, y4, y5, y6, y7, y8⟩ := cs W1 (Below.refl _ _)
  have HW0 := Lib.hid hW0; have HW1 := Lib.hid hW1; have CS := Lib.hid cs; have HB := Lib.hid hb; have KQ := Lib.hid kq
  obtain ⟨g, hg⟩ : ∃ g, g = c.parents.length := ⟨_, rfl⟩
  rw [← hg] at y1 y5 KQ CS
  clear hW0 hW1 hb0 hb1 S0 S1 T1 q1 q2 q3 q4 p1 p2 p3 p4 cs sk sj kq h20 hp hn hA hB hk hj ek ej hb hz1 hg
  go_enter Tryz.func32, Tryz.ntmps32
  go_upto_region 1 with fail
  rw [← HW0.out, ← HW1.out]
  go_wp2_with (first
    | (refine wpList_loadG 27 (.tmp 5) rfl ⟨w.heap.size, 0, none⟩ rfl _ l1 rfl ?_)
    | (refine wpList_loadG 26 (.tmp 7) rfl ⟨w.heap.size + 1, 0, none⟩ rfl _ l2 rfl ?_)
    | (go_at_call 41; (with_reducible refine KQ.out.mono ?_); rintro e w2 ⟨rfl, hb2⟩
       obtain ⟨z1, z2, z3, z4, z5, z6, z7, z8⟩ := CS.out w2 hb2))
  go_ret
  exact ⟨rfl, HB.out.trans (hb2.mono HB.out.size)⟩
end
section
open Go.RowKit
set_option maxRecDepth 100000
set_option maxHeartbeats 2000000
set_option linter.unusedVariables false
theorem kp_undrew {S : Nat → Prop} {w w' : World} (h : Kp S w.drew w') : Kp S w w' := ⟨h.os, h.tape, h.output, h.size, h.block⟩
theorem builtS20 (A : Option Addr) (n1 n2 : Nat) (n g m : ByteArray) (a0 a1 a2 a3 a4 a5 a6 a7 a8 a9 b0 b1 b2 b3 b4 b5 b6 b7 b8 b9 : UInt8) : Tryz.prog.built 54 [(0, idv [a0, a1, a2, a3, a4, a5, a6, a7, a8, a9, b0, b1, b2, b3, b4, b5, b6, b7, b8, b9]), (1, .slice A n1 n2), (2, .string n), (3, .string g), (4, .string m)] = some (bvs [a0, a1, a2, a3, a4, a5, a6, a7, a8, a9, b0, b1, b2, b3, b4, b5, b6, b7, b8, b9] ++ [Value.slice A n1 n2, Value.string n, Value.string g, Value.string m] : List Value).toArray := by kernel_rfl
theorem builtL (c : Cm) (h : c.tree.length = 20) (A : Option Addr) (n1 n2 : Nat) : Tryz.prog.built 54 [(0, idv c.tree), (1, .slice A n1 n2), (2, .string (bstr c.author)), (3, .string (bstr c.committer)), (4, .string (bstr c.message))] = some (ccell (ck c (.slice A n1 n2))).toArray := by
  obtain ⟨id, ps, n, g, m⟩ := c
  dsimp only at h ⊢
  match id, h with
  | [a0, a1, a2, a3, a4, a5, a6, a7, a8, a9, b0, b1, b2, b3, b4, b5, b6, b7, b8, b9], _ => exact builtS20 A n1 n2 (bstr n) (bstr g) (bstr m) a0 a1 a2 a3 a4 a5 a6 a7 a8 a9 b0 b1 b2 b3 b4 b5 b6 b7 b8 b9
theorem run_buildL {o : Oper} {a : Act} (x0 x1 x2 x3 x4 : Operand) (ho : o.op = .build 54 #[(0, x0), (1, x1), (2, x2), (3, x3), (4, x4)])
    (c : Cm) (ht : c.tree.length = 20) (v : Value) {A : Option Addr} {n1 n2 : Nat} (hv : v = .slice A n1 n2) (h0 : a.eval x0 = idv c.tree) (h1 : a.eval x1 = v) (h2 : a.eval x2 = .string (bstr c.author)) (h3 : a.eval x3 = .string (bstr c.committer)) (h4 : a.eval x4 = .string (bstr c.message)) (w : World) : (execOp (Act.eval a) o).run Tryz.prog w = .ok (.value (cv (ck c v))) w := by
  subst hv
  have hr := run_build (P := Tryz.prog) w 54 #[(0, idv c.tree), (1, .slice A n1 n2), (2, .string (bstr c.author)), (3, .string (bstr c.committer)), (4, .string (bstr c.message))] _ (builtL c ht A n1 n2)
  simp [execOp, ho, h0, h1, h2, h3, h4, hr, Result.andThen]
theorem infoL {k : Ck} (h : k.tree.length = 20) : (Tryz.prog.info? 54).map (·.size) = some (ccell k).toArray.size := by
  rw [show (ccell k).toArray.size = 24 by simp [ccell_len h]]
  kernel_rfl
theorem commit_any (c : Cm) (h20 : c.tree.length = 20) (hp : All20 c.parents) (hn : c.parents.length < 256) (A : Option Addr) (m : Nat) (w : World) (hA : Sl w A (idc c.parents)) :
    Calls Tryz.prog 25 #[cv (ck c (.slice A c.parents.length m))] w fun e w' => ∃ B n, e = .returned (cv (ck c (.slice B c.parents.length n))) ∧ Sl w' B (idc c.parents) ∧ Below w.heap.size w w' := by
  obtain ⟨k, hk⟩ : ∃ k, k = ck c (.slice A c.parents.length m) := ⟨_, rfl⟩
  rw [← hk]
  obtain ⟨W0, hW0⟩ : ∃ W0, W0 = w.alloc (.cells (ccell k).toArray 45) := ⟨_, rfl⟩
  have hb0 : Below w.heap.size w W0 := by rw [hW0]; exact (Below.refl _ _).alloc (Nat.le_refl _) _
  have S0 : Sl W0 (some ⟨w.heap.size, 0, none⟩) (ccell k) := by
    rw [hW0]
    exact Sl.of_block (heap_alloc_new _ _) (fun j v hj => by simpa using hj)
  obtain ⟨W1, hW1⟩ : ∃ W1, W1 = W0.alloc (.cells zck 54) := ⟨_, rfl⟩
  have hb1 : Below W0.heap.size W0 W1 := by rw [hW1]; exact (Below.refl _ _).alloc (Nat.le_refl _) _
  have hz1 : W0.heap.size = w.heap.size + 1 := by rw [hW0]; simp
  have r1 : W1.heap[w.heap.size + 1]? = some (.cells zck 54 (0, 0)) := by rw [hW1, ← hz1]; exact heap_alloc_new _ _
  have S1 := S0.below hb1
  have ek : k.tree.length = 20 := by rw [hk]; exact h20
  have hb : Below w.heap.size w W1 := hb0.trans (hb1.mono hb0.size)
  obtain ⟨q1, q2, q3, q4⟩ := ccell_at ek
  have keep : ∀ w', Kp (fun k => k = w.heap.size + 1) W1 w' → w'.rangeAt w.heap.size 0 (bvs c.tree) ∧ w'.cell? ⟨w.heap.size, 20, none⟩ = some (.slice A c.parents.length m) ∧ w'.cell? ⟨w.heap.size, 21, none⟩ = some (.string (bstr c.author)) ∧ w'.cell? ⟨w.heap.size, 22, none⟩ = some (.string (bstr c.committer)) ∧ w'.cell? ⟨w.heap.size, 23, none⟩ = some (.string (bstr c.message)) := fun w' h => by
    have a1 := ck_at S1 q1; have a2 := ck_at S1 q2; have a3 := ck_at S1 q3; have a4 := ck_at S1 q4
    rw [add_plain, Nat.zero_add] at a1 a2 a3 a4
    rw [hk] at a1 a2 a3 a4
    have hne : ¬ (w.heap.size = w.heap.size + 1) := by omega
    refine ⟨fun i v hv => ?_, h.cell a1 hne, h.cell a2 hne, h.cell a3 hne, h.cell a4 hne⟩
    obtain ⟨ad, ea, hc⟩ := S1 i v (by
      unfold ccell
      rw [show k.tree = c.tree by rw [hk], List.getElem?_append_left (by have := (List.getElem?_eq_some_iff.1 hv).1; simpa using this)]
      exact hv)
    injection ea with ea
    subst ea
    rw [add_plain] at hc
    exact h.cell hc hne
  have ko : ∀ w', Kp (fun k => k = w.heap.size + 1) W1 w' → Calls Tryz.prog 50 #[.slice A c.parents.length m] w' fun e w'' => ∃ B n, e = .returned (.slice B c.parents.length n) ∧ Sl w'' B (idc c.parents) ∧ (∀ ad, B = some ad → w.heap.size + 1 < ad.block) ∧ Below w'.heap.size w' w'' := fun w' h => by
    have sA : Sl w' A (idc c.parents) := fun j v hj => by
      obtain ⟨ad, e, hc⟩ := hA j v hj
      have hlt := World.block_lt_of_cell? w _ hc
      exact ⟨ad, e, h.cell ((hb.cell hlt).trans hc) (by omega)⟩
    refine (of_any c.parents hp hn A m w' sA).mono ?_
    · rintro e w'' ⟨v, rfl, hown, hbl⟩
      obtain ⟨B, n, rfl, _, _, hs⟩ := (Win.ofOwns hown).reads
      refine ⟨B, n, rfl, hs, fun ad e => ?_, hbl⟩
      have := ((Win.ofOwns hown).block ad.block (by rw [e]; rfl)).1
      have := h.size
      have := (Array.getElem?_eq_some_iff.1 r1).1
      omega
  have hu : Tryz.prog.underlying 27 = some (.array 20 5) := Tryz.underlying27
  have hi : (Tryz.prog.info? 27).map (·.size) = some (bvs c.tree).length := by
    have := info23 c.tree h20
    simpa using this
  have HW0 := Lib.hid hW0; have HW1 := Lib.hid hW1; have KEEP := Lib.hid keep; have HB := Lib.hid hb; have KO := Lib.hid ko; have H20 := Lib.hid h20; have R1 := Lib.hid r1
  clear hW0 hW1 hb0 hb1 S0 S1 q1 q2 q3 q4 keep ko h20 hp hn hA hk ek hb hz1 r1
  have l0 : ∀ w', Kp (fun k => k = w.heap.size + 1) W1 w' → (loadVar 27 ⟨w.heap.size, 0, none⟩).run Tryz.prog w' = .ok (idv c.tree) w' := fun w' h => load_id c.tree H20.out _ _ (fun i v hv => ⟨_, rfl, by rw [add_plain]; exact (KEEP.out w' h).1 i v hv⟩)
  have l1 : ∀ w', Kp (fun k => k = w.heap.size + 1) W1 w' → (loadVar 43 ⟨w.heap.size, 20, none⟩).run Tryz.prog w' = .ok (.slice A c.parents.length m) w' := fun w' h => load_oneC (fun w => by kernel_rfl) (KEEP.out w' h).2.1
  have l2 : ∀ w', Kp (fun k => k = w.heap.size + 1) W1 w' → (loadVar 9 ⟨w.heap.size, 21, none⟩).run Tryz.prog w' = .ok (.string (bstr c.author)) w' := fun w' h => load_oneC (fun w => by kernel_rfl) (KEEP.out w' h).2.2.1
  have l3 : ∀ w', Kp (fun k => k = w.heap.size + 1) W1 w' → (loadVar 9 ⟨w.heap.size, 22, none⟩).run Tryz.prog w' = .ok (.string (bstr c.committer)) w' := fun w' h => load_oneC (fun w => by kernel_rfl) (KEEP.out w' h).2.2.2.1
  have l4 : ∀ w', Kp (fun k => k = w.heap.size + 1) W1 w' → (loadVar 9 ⟨w.heap.size, 23, none⟩).run Tryz.prog w' = .ok (.string (bstr c.message)) w' := fun w' h => load_oneC (fun w => by kernel_rfl) (KEEP.out w' h).2.2.2.2
  obtain ⟨n, hnn⟩ : ∃ n, n = c.parents.length := ⟨_, rfl⟩
  rw [← hnn] at l1 KO ⊢
  have HN := Lib.hid hnn
  clear hnn
  go_enter Tryz.func25, Tryz.ntmps25
  go_upto_region 1 with fail
  simp only [zcklit]
  rw [← HW0.out, ← HW1.out]
  refine wp_region_plan_tail 12 [(0, false), (1, false), (2, false), (3, false), (5, false), (6, false), (7, false), (8, false), (9, false), (10, false), (4, true), (11, false)] (fun u v => Kp (fun k => k = w.heap.size + 1) u v) (fun w => Kp.refl _ _) (fun _ _ _ h k => h.trans k) (by kernel_rfl) (by kernel_rfl) ?_
  (refine wpG_still _ rfl rfl ?_; go_big_quiet_step ((intro hb; rfl)); refine wpQuiet_nil ?_)
  (refine wpG_still _ rfl rfl ?_; refine wpQuiet_load 27 (.tmp 3) rfl ⟨w.heap.size, 0, none⟩ rfl (idv c.tree) (fun w' h => l0 w' (kp_undrew h)) _ rfl rfl ?_; simp only [List.set_cons_succ, List.set_cons_zero]; refine wpQuiet_nil ?_)
  (refine wpG_still _ rfl rfl ?_; go_big_quiet_step ((intro hb; rfl)); refine wpQuiet_nil ?_)
  (refine wpG_still _ rfl rfl ?_; refine wpQuiet_load 43 (.tmp 5) rfl ⟨w.heap.size, 20, none⟩ rfl (.slice A n m) (fun w' h => l1 w' (kp_undrew h)) _ rfl rfl ?_; simp only [List.set_cons_succ, List.set_cons_zero]; refine wpQuiet_nil ?_)
  (refine wpG_still _ rfl rfl ?_; go_big_quiet_step ((intro hb; rfl)); refine wpQuiet_nil ?_)
  (refine wpG_still _ rfl rfl ?_; refine wpQuiet_load 9 (.tmp 8) rfl ⟨w.heap.size, 21, none⟩ rfl (.string (bstr c.author)) (fun w' h => l2 w' (kp_undrew h)) _ rfl rfl ?_; simp only [List.set_cons_succ, List.set_cons_zero]; refine wpQuiet_nil ?_)
  (refine wpG_still _ rfl rfl ?_; go_big_quiet_step ((intro hb; rfl)); refine wpQuiet_nil ?_)
  (refine wpG_still _ rfl rfl ?_; refine wpQuiet_load 9 (.tmp 10) rfl ⟨w.heap.size, 22, none⟩ rfl (.string (bstr c.committer)) (fun w' h => l3 w' (kp_undrew h)) _ rfl rfl ?_; simp only [List.set_cons_succ, List.set_cons_zero]; refine wpQuiet_nil ?_)
  (refine wpG_still _ rfl rfl ?_; go_big_quiet_step ((intro hb; rfl)); refine wpQuiet_nil ?_)
  (refine wpG_still _ rfl rfl ?_; refine wpQuiet_load 9 (.tmp 12) rfl ⟨w.heap.size, 23, none⟩ rfl (.string (bstr c.message)) (fun w' h => l4 w' (kp_undrew h)) _ rfl rfl ?_; simp only [List.set_cons_succ, List.set_cons_zero]; refine wpQuiet_nil ?_)
  refine wpG_call _ rfl rfl 50 _ (fun w => rfl) ?_
  refine calls_args (args' := #[.slice A n m]) (by simp [Act.eval]) ?_
  refine (KO.out _ (Kp.refl _ _).drew).mono ?_
  rintro e w2 ⟨B, n2, rfl, hs2, hB2, hb2⟩
  refine ⟨_, rfl, Kp.ofBelow hb2, ?_⟩
  simp only [Act.put, List.setIfInBounds_toArray, List.set_cons_succ, List.set_cons_zero]
  have k2 : Kp (fun k => k = w.heap.size + 1) W1 w2 := kp_undrew (Kp.ofBelow hb2)
  have r2 : w2.heap[w.heap.size + 1]? = some (.cells zck 54 (0, 0)) := (hb2.block _ (Array.getElem?_eq_some_iff.1 R1.out).1).trans R1.out
  have R2 := Lib.hid r2; have HS2 := Lib.hid hs2; have HBA := Lib.hid hB2; have K2 := Lib.hid k2
  have zi := Lib.hid (infoL (k := ck c (.slice B n n2)) H20.out); have zs := Lib.hid (zck_size (k := ck c (.slice B n n2)) H20.out); have zo := Lib.hid (ccell_one (k := ck c (.slice B n n2)) rfl)
  clear r2 hs2 hB2 k2 hb2 l0 l1 l2 l3 l4
  (refine wpG_still _ rfl rfl ?_; refine wpQuiet_pure _ rfl rfl (cv (ck c (.slice B n n2))) (run_buildL (.tmp 4) (.tmp 7) (.tmp 9) (.tmp 11) (.tmp 13) rfl c H20.out (.slice B n n2) rfl rfl rfl rfl rfl rfl) ?_; simp only [List.set_cons_succ, List.set_cons_zero]; refine wpQuiet_nil ?_)
  show wpList _ _ _ [_] _ _
  go_wp2_with (refine wpList_store_row rfl 54 (.tmp 2) (.tmp 14) rfl (w.heap.size + 1) (ccell (ck c (.slice B n n2))).toArray rfl rfl 54 zck R2.out zi.out zs.out zo.out ?_)
  refine bodyPost_ret (results_cell_row rfl _ _ (w.heap.size + 1) 54 (ccell (ck c (.slice B n n2))).toArray (0, 0) _ rfl (setRow_heap _ _ _ _ _ _ R2.out) Tryz.underlying54 rfl zi.out) rfl ?_
  exact ⟨B, n2, rfl, sl_setRow HS2.out _ _ (fun ad e h => by have := HBA.out ad e; omega), below_setRow (HB.out.trans (K2.out.toBelow HB.out.size (fun k hk e => by omega))) _ (by omega) _⟩
end
section
open Go.RowKit
set_option maxRecDepth 100000
set_option maxHeartbeats 1000000
set_option linter.unusedVariables false
theorem eqFields_self {P : Program} (d : Nat) (cs : Array Value) (w : World) : ∀ fs : List Field, (∀ f ∈ fs, ∃ v, (part f.type cs f.offset).run P w = .ok v w ∧ (Op.equalIn d f.type v v).run P w = .ok true w) → (Op.eqFields d cs cs fs).run P w = .ok true w
  | [], _ => by rw [Op.eqFields, Sem.run_pure]
  | f :: fs, h => by
    obtain ⟨v, h1, h2⟩ := h f (by simp)
    have ih := eqFields_self d cs w fs (fun g hg => h g (List.mem_cons_of_mem _ hg))
    rw [Op.eqFields]
    by_cases hn : f.name ≠ "_"
    · rw [if_pos hn, Sem.run_bind, h1, Result.andThen_ok, Sem.run_bind, h1, Result.andThen_ok, Sem.run_bind, h2, Result.andThen_ok, Sem.run_ite, if_neg (by simp)]
      exact ih
    · rw [if_neg hn]
      exact ih
theorem part_idAt (T : Nat) (hT : ∀ w, (isAgg T).run Tryz.prog w = .ok true w) (hs : ∀ w, (sizeOf T).run Tryz.prog w = .ok 20 w) (a b id : List UInt8) (x y : List Value) (k : Nat) (hk : x.length = k) (h : id.length = 20) (w : World) : (part T (x ++ bvs id ++ y).toArray k).run Tryz.prog w = .ok (idv id) w := by
  have e : (x ++ bvs id ++ y).toArray.extract k (k + 20) = (bvs id).toArray := by
    apply Array.ext'
    rw [Array.toList_extract]
    simp only [List.toList_toArray]
    rw [List.extract_eq_take_drop]
    subst hk
    simp [h]
  simp only [part, Sem.run_bind, hT, hs, Result.andThen_ok, if_true, e]
  rfl
theorem tagO_fields : (Tryz.prog.fieldsOf 47).toList.map (fun f => (f.type, f.offset)) = [(27, 0), (3, 20), (9, 21), (9, 22), (9, 23)] := by
  simp [Program.fieldsOf, Tryz.underlying47]
theorem tagR_fields : (Tryz.prog.fieldsOf 59).toList.map (fun f => (f.type, f.offset)) = [(26, 0), (3, 20), (9, 21), (9, 22), (9, 23)] := by
  simp [Program.fieldsOf, Tryz.underlying59]
theorem entO_fields : (Tryz.prog.fieldsOf 40).toList.map (fun f => (f.type, f.offset)) = [(3, 0), (9, 1), (27, 2)] := by
  simp [Program.fieldsOf, Tryz.underlying40]
theorem entR_fields : (Tryz.prog.fieldsOf 80).toList.map (fun f => (f.type, f.offset)) = [(3, 0), (9, 1), (26, 2)] := by
  simp [Program.fieldsOf, Tryz.underlying80]
theorem eq_str (d : Nat) (s : ByteArray) (w : World) : (Op.equalIn (d + 1) 9 (.string s) (.string s)).run Tryz.prog w = .ok true w := by
  rw [run_equalIn_string (P := Tryz.prog) w d 9 s s Tryz.underlying9]
  simp
theorem eq_int (d : Nat) (k : Int) (w : World) : (Op.equalIn (d + 1) 3 (.int .i64 k) (.int .i64 k)).run Tryz.prog w = .ok true w := by
  simp [Op.equalIn, run_underlying Tryz.underlying3]
theorem eq_id (T : Nat) (hT : Tryz.prog.underlying T = some (.array 20 5)) (d : Nat) (id : List UInt8) (h : id.length = 20) (w : World) : (Op.equalIn (d + 2) T (idv id) (idv id)).run Tryz.prog w = .ok true w := by
  rw [eqlIn_run9 d T hT id id h h w, decide_eq_true rfl]
theorem all_fields {P : Program} {fs : List Field} {L : List (TypeId × Nat)} (h : fs.map (fun f => (f.type, f.offset)) = L) {Q : TypeId → Nat → Prop} (hq : ∀ p ∈ L, Q p.1 p.2) : ∀ f ∈ fs, Q f.type f.offset := fun f hf => hq (f.type, f.offset) (by rw [← h]; exact List.mem_map.2 ⟨f, hf, rfl⟩)
theorem tag_parts (T : Nat) (hA : ∀ w, (isAgg T).run Tryz.prog w = .ok true w) (hs : ∀ w, (sizeOf T).run Tryz.prog w = .ok 20 w) (hT : Tryz.prog.underlying T = some (.array 20 5)) (t : Tg) (h : t.object.length = 20) (d : Nat) (w : World) :
    ∀ p ∈ [(T, 0), (3, 20), (9, 21), (9, 22), (9, 23)], ∃ v, (part p.1 (tcell t).toArray p.2).run Tryz.prog w = .ok v w ∧ (Op.equalIn (d + 2) p.1 v v).run Tryz.prog w = .ok true w := by
  obtain ⟨c1, c2, c3, c4⟩ := tcell_at h
  have pid : (part T (tcell t).toArray 0).run Tryz.prog w = .ok (idv t.object) w := by
    have := part_idAt T hA hs [] [] t.object [] [.int .i64 t.kind, .string (bstr t.name), .string (bstr t.tagger), .string (bstr t.message)] 0 rfl h w
    simpa [tcell] using this
  intro p hp
  simp only [List.mem_cons, List.not_mem_nil, or_false] at hp
  rcases hp with rfl | rfl | rfl | rfl | rfl
  · exact ⟨_, pid, eq_id T hT d _ h w⟩
  · exact ⟨_, run_part_plain w (by kernel_rfl) (by simpa using c1), eq_int (d + 1) _ w⟩
  · exact ⟨_, run_part_plain w (by kernel_rfl) (by simpa using c2), eq_str (d + 1) _ w⟩
  · exact ⟨_, run_part_plain w (by kernel_rfl) (by simpa using c3), eq_str (d + 1) _ w⟩
  · exact ⟨_, run_part_plain w (by kernel_rfl) (by simpa using c4), eq_str (d + 1) _ w⟩
theorem ent_parts (T : Nat) (hA : ∀ w, (isAgg T).run Tryz.prog w = .ok true w) (hs : ∀ w, (sizeOf T).run Tryz.prog w = .ok 20 w) (hT : Tryz.prog.underlying T = some (.array 20 5)) (e : En) (h : e.id.length = 20) (d : Nat) (w : World) :
    ∀ p ∈ [(3, 0), (9, 1), (T, 2)], ∃ v, (part p.1 (ecell e).toArray p.2).run Tryz.prog w = .ok v w ∧ (Op.equalIn (d + 2) p.1 v v).run Tryz.prog w = .ok true w := by
  have pid : (part T (ecell e).toArray 2).run Tryz.prog w = .ok (idv e.id) w := by
    have := part_idAt T hA hs [] [] e.id [.int .i64 e.mode, .string (bstr e.name)] [] 2 rfl h w
    simpa [ecell] using this
  intro p hp
  simp only [List.mem_cons, List.not_mem_nil, or_false] at hp
  rcases hp with rfl | rfl | rfl
  · exact ⟨_, run_part_plain w (by kernel_rfl) (by simp [ecell]; rfl), eq_int (d + 1) _ w⟩
  · exact ⟨_, run_part_plain w (by kernel_rfl) (by simp [ecell]; rfl), eq_str (d + 1) _ w⟩
  · exact ⟨_, pid, eq_id T hT d _ h w⟩
theorem neq_self (T : Nat) (cs : Array Value) {L : List (TypeId × Nat)} (hf : (Tryz.prog.fieldsOf T).toList.map (fun f => (f.type, f.offset)) = L) (w : World) (h1 : ∀ (d : Nat), (Op.equalIn (d + 1) T (.agg cs) (.agg cs)).run Tryz.prog w = (Op.eqFields d cs cs (Tryz.prog.fieldsOf T).toList).run Tryz.prog w)
    (hp : ∀ d, ∀ p ∈ L, ∃ v, (part p.1 cs p.2).run Tryz.prog w = .ok v w ∧ (Op.equalIn (d + 2) p.1 v v).run Tryz.prog w = .ok true w) : (binOp .neq T (.agg cs) (.agg cs)).run Tryz.prog w = .ok (.bool false) w := by
  have h := eqFields_self (9997 + 2) cs w (Tryz.prog.fieldsOf T).toList (all_fields (P := Tryz.prog) hf (Q := fun t o => ∃ v, (part t cs o).run Tryz.prog w = .ok v w ∧ (Op.equalIn (9997 + 2) t v v).run Tryz.prog w = .ok true w) (hp 9997))
  rw [← h1] at h
  rw [run_neq_struct]
  rw [show (10000 : Nat) = 9997 + 2 + 1 from rfl, h]
  rfl
theorem tagO_neq (t : Tg) (h : t.object.length = 20) (w : World) : (binOp .neq 47 (tv t) (tv t)).run Tryz.prog w = .ok (.bool false) w :=
  neq_self _ _ tagO_fields w (fun d => run_equalIn_struct (P := Tryz.prog) w d 47 (tcell t).toArray (tcell t).toArray (by kernel_rfl) (by kernel_rfl)) (fun d => tag_parts _ (fun w => by kernel_rfl) (fun w => by kernel_rfl) (by kernel_rfl) t h d w)
theorem tagR_neq (t : Tg) (h : t.object.length = 20) (w : World) : (binOp .neq 59 (tv t) (tv t)).run Tryz.prog w = .ok (.bool false) w :=
  neq_self _ _ tagR_fields w (fun d => run_equalIn_struct (P := Tryz.prog) w d 59 (tcell t).toArray (tcell t).toArray (by kernel_rfl) (by kernel_rfl)) (fun d => tag_parts _ (fun w => by kernel_rfl) (fun w => by kernel_rfl) (by kernel_rfl) t h d w)
theorem entO_neq (e : En) (h : e.id.length = 20) (w : World) : (binOp .neq 40 (ev e) (ev e)).run Tryz.prog w = .ok (.bool false) w :=
  neq_self _ _ entO_fields w (fun d => run_equalIn_struct (P := Tryz.prog) w d 40 (ecell e).toArray (ecell e).toArray (by kernel_rfl) (by kernel_rfl)) (fun d => ent_parts _ (fun w => by kernel_rfl) (fun w => by kernel_rfl) (by kernel_rfl) e h d w)
theorem entR_neq (e : En) (h : e.id.length = 20) (w : World) : (binOp .neq 80 (ev e) (ev e)).run Tryz.prog w = .ok (.bool false) w :=
  neq_self _ _ entR_fields w (fun d => run_equalIn_struct (P := Tryz.prog) w d 80 (ecell e).toArray (ecell e).toArray (by kernel_rfl) (by kernel_rfl)) (fun d => ent_parts _ (fun w => by kernel_rfl) (fun w => by kernel_rfl) (by kernel_rfl) e h d w)
end
section
open Go.RowKit Go.ChangeShapes Go.WideShapes
set_option maxRecDepth 100000
set_option maxHeartbeats 4000000
set_option linter.unusedVariables false
theorem bstr_back (s : ByteArray) : s = bstr s.data.toList := by
  show s = ⟨s.data.toList.toArray⟩
  simp
theorem open_commit {H : Type} {enc : TypeId × Value → H} {W : World} {base b0 : Nat} {held : Bool} {r : Reach} {v : Value} {d : DataW H} {ps : List MemPlace}
    (hval : Value.okWide Tryz.prog W r b0 45 v) (h : DataW.Trod enc Tryz.prog W base (fun _ => true) held 45 v d ps) :
    ∃ (c : Cm) (A : Option Addr) (cap : Nat), v = cv (ck c (.slice A c.parents.length cap)) ∧ c.tree.length = 20 ∧ All20 c.parents ∧ Sl W A (idc c.parents) ∧ (A = none → cap = 0) ∧ (c.parents.length ≤ maxLen ∧ c.author.length ≤ maxLen ∧ c.committer.length ≤ maxLen ∧ c.message.length ≤ maxLen) := by
  have c9 : Tryz.prog.cellsOf 9 = 1 := by kernel_rfl
  have cI : Tryz.prog.cellsOf 27 = 20 := by kernel_rfl
  have cP : Tryz.prog.cellsOf 43 = 1 := by kernel_rfl
  have cC : Tryz.prog.cellsOf 45 = 24 := by kernel_rfl
  obtain ⟨cs, rfl, hsz⟩ := okWide_struct Tryz.underlying45 hval
  rw [cC] at hsz
  obtain ⟨fuel, hf⟩ := h
  obtain ⟨xs, n, _, _, hl, hlen, hfs⟩ := DataW.trod_struct Tryz.underlying45 hf
  have h0 := hfs 0 _ rfl
  have h1 := hfs 1 _ rfl
  have h2 := hfs 2 _ rfl
  have h3 := hfs 3 _ rfl
  have h4 := hfs 4 _ rfl
  simp only [Value.cells, List.getElem_toArray, List.getElem_cons_zero, List.getElem_cons_succ] at h0 h1 h2 h3 h4
  rw [cI, List.drop_zero] at h0
  rw [cP] at h1
  rw [c9] at h2 h3 h4
  have hcl : cs.toList.length = 24 := by simpa using hsz
  obtain ⟨y0, hy0⟩ : ∃ y, xs[0]? = some y := ⟨xs[0]'(by rw [hlen]; decide), List.getElem?_eq_getElem _⟩
  obtain ⟨y1, hy1⟩ : ∃ y, xs[1]? = some y := ⟨xs[1]'(by rw [hlen]; decide), List.getElem?_eq_getElem _⟩
  obtain ⟨y2, hy2⟩ : ∃ y, xs[2]? = some y := ⟨xs[2]'(by rw [hlen]; decide), List.getElem?_eq_getElem _⟩
  obtain ⟨y3, hy3⟩ : ∃ y, xs[3]? = some y := ⟨xs[3]'(by rw [hlen]; decide), List.getElem?_eq_getElem _⟩
  obtain ⟨y4, hy4⟩ : ∃ y, xs[4]? = some y := ⟨xs[4]'(by rw [hlen]; decide), List.getElem?_eq_getElem _⟩
  rw [hy0] at h0
  rw [hy1] at h1
  rw [hy2] at h2
  rw [hy3] at h3
  rw [hy4] at h4
  obtain ⟨l, e0, hl20⟩ := id_of_trod Tryz.underlying27 (by kernel_rfl) (by rw [List.length_take, hcl]; rfl) h0
  obtain ⟨s2, e2, _, w2⟩ := DataW.trod_string Tryz.underlying9 h2
  obtain ⟨s3, e3, _, w3⟩ := DataW.trod_string Tryz.underlying9 h3
  obtain ⟨s4, e4, _, w4⟩ := DataW.trod_string Tryz.underlying9 h4
  obtain ⟨A, len, cap, e1⟩ : ∃ A len cap, (cs.toList.drop 20).take 1 = [.slice A len cap] := by
    rcases Go.Deep.open_slice Tryz.underlying43 h1 with ⟨hcs, _⟩ | ⟨a, len, cap, m, k, D, Pl, hcs, _⟩
    · exact ⟨_, _, _, hcs⟩
    · exact ⟨_, _, _, hcs⟩
  rw [e1] at h1
  obtain ⟨q, rfl, g1, g2, g3, g4, g5⟩ := ids_of_trod h1
  refine ⟨⟨l, q, s2.data.toList, s3.data.toList, s4.data.toList⟩, A, cap, ?_, hl20, g3, g4, g5, Nat.le_trans g1 g2, w2, w3, w4⟩
  have ht : cs.toList = cs.toList.take 20 ++ ((cs.toList.drop 20).take 1 ++ ((cs.toList.drop 21).take 1 ++ ((cs.toList.drop 22).take 1 ++ (cs.toList.drop 23).take 1))) := by
    have t3 : (cs.toList.drop 23).take 1 = cs.toList.drop 23 := List.take_of_length_le (by rw [List.length_drop, hcl]; decide)
    have t2 : (cs.toList.drop 22).take 1 ++ cs.toList.drop 23 = cs.toList.drop 22 := by
      have := List.take_append_drop 1 (cs.toList.drop 22)
      rwa [List.drop_drop] at this
    have t1 : (cs.toList.drop 21).take 1 ++ cs.toList.drop 22 = cs.toList.drop 21 := by
      have := List.take_append_drop 1 (cs.toList.drop 21)
      rwa [List.drop_drop] at this
    have t0 : (cs.toList.drop 20).take 1 ++ cs.toList.drop 21 = cs.toList.drop 20 := by
      have := List.take_append_drop 1 (cs.toList.drop 20)
      rwa [List.drop_drop] at this
    rw [t3, t2, t1, t0, List.take_append_drop]
  rw [e0, e1, e2, e3, e4] at ht
  congr 1
  apply Array.ext'
  rw [ht]
  simp only [ccell]
  rw [← bstr_back s2, ← bstr_back s3, ← bstr_back s4]
  rfl
theorem open_tag {H : Type} {enc : TypeId × Value → H} {W : World} {base b0 : Nat} {sp : Nat → Bool} {held : Bool} {r : Reach} {v : Value} {d : DataW H} {ps : List MemPlace}
    (hval : Value.okWide Tryz.prog W r b0 47 v) (h : DataW.Trod enc Tryz.prog W base sp held 47 v d ps) :
    ∃ t : Tg, v = tv t ∧ t.object.length = 20 ∧ (t.name.length ≤ maxLen ∧ t.tagger.length ≤ maxLen ∧ t.message.length ≤ maxLen) := by
  have c9 : Tryz.prog.cellsOf 9 = 1 := by kernel_rfl
  have cI : Tryz.prog.cellsOf 27 = 20 := by kernel_rfl
  have cP : Tryz.prog.cellsOf 3 = 1 := by kernel_rfl
  have cC : Tryz.prog.cellsOf 47 = 24 := by kernel_rfl
  obtain ⟨cs, rfl, hsz⟩ := okWide_struct Tryz.underlying47 hval
  rw [cC] at hsz
  obtain ⟨fuel, hf⟩ := h
  obtain ⟨xs, n, _, _, hl, hlen, hfs⟩ := DataW.trod_struct Tryz.underlying47 hf
  have h0 := hfs 0 _ rfl
  have h1 := hfs 1 _ rfl
  have h2 := hfs 2 _ rfl
  have h3 := hfs 3 _ rfl
  have h4 := hfs 4 _ rfl
  simp only [Value.cells, List.getElem_toArray, List.getElem_cons_zero, List.getElem_cons_succ] at h0 h1 h2 h3 h4
  rw [cI, List.drop_zero] at h0
  rw [cP] at h1
  rw [c9] at h2 h3 h4
  have hcl : cs.toList.length = 24 := by simpa using hsz
  obtain ⟨y0, hy0⟩ : ∃ y, xs[0]? = some y := ⟨xs[0]'(by rw [hlen]; decide), List.getElem?_eq_getElem _⟩
  obtain ⟨y1, hy1⟩ : ∃ y, xs[1]? = some y := ⟨xs[1]'(by rw [hlen]; decide), List.getElem?_eq_getElem _⟩
  obtain ⟨y2, hy2⟩ : ∃ y, xs[2]? = some y := ⟨xs[2]'(by rw [hlen]; decide), List.getElem?_eq_getElem _⟩
  obtain ⟨y3, hy3⟩ : ∃ y, xs[3]? = some y := ⟨xs[3]'(by rw [hlen]; decide), List.getElem?_eq_getElem _⟩
  obtain ⟨y4, hy4⟩ : ∃ y, xs[4]? = some y := ⟨xs[4]'(by rw [hlen]; decide), List.getElem?_eq_getElem _⟩
  rw [hy0] at h0
  rw [hy1] at h1
  rw [hy2] at h2
  rw [hy3] at h3
  rw [hy4] at h4
  obtain ⟨l, e0, hl20⟩ := id_of_trod Tryz.underlying27 (by kernel_rfl) (by rw [List.length_take, hcl]; rfl) h0
  obtain ⟨k, e1, _, _⟩ := DataW.trod_int Tryz.underlying3 h1
  obtain ⟨s2, e2, _, w2⟩ := DataW.trod_string Tryz.underlying9 h2
  obtain ⟨s3, e3, _, w3⟩ := DataW.trod_string Tryz.underlying9 h3
  obtain ⟨s4, e4, _, w4⟩ := DataW.trod_string Tryz.underlying9 h4
  refine ⟨⟨l, k, s2.data.toList, s3.data.toList, s4.data.toList⟩, ?_, hl20, w2, w3, w4⟩
  have ht : cs.toList = cs.toList.take 20 ++ ((cs.toList.drop 20).take 1 ++ ((cs.toList.drop 21).take 1 ++ ((cs.toList.drop 22).take 1 ++ (cs.toList.drop 23).take 1))) := by
    have t3 : (cs.toList.drop 23).take 1 = cs.toList.drop 23 := List.take_of_length_le (by rw [List.length_drop, hcl]; decide)
    have t2 : (cs.toList.drop 22).take 1 ++ cs.toList.drop 23 = cs.toList.drop 22 := by
      have := List.take_append_drop 1 (cs.toList.drop 22)
      rwa [List.drop_drop] at this
    have t1 : (cs.toList.drop 21).take 1 ++ cs.toList.drop 22 = cs.toList.drop 21 := by
      have := List.take_append_drop 1 (cs.toList.drop 21)
      rwa [List.drop_drop] at this
    have t0 : (cs.toList.drop 20).take 1 ++ cs.toList.drop 21 = cs.toList.drop 20 := by
      have := List.take_append_drop 1 (cs.toList.drop 20)
      rwa [List.drop_drop] at this
    rw [t3, t2, t1, t0, List.take_append_drop]
  rw [e0, e1, e2, e3, e4] at ht
  congr 1
  apply Array.ext'
  rw [ht]
  simp only [tcell]
  rw [← bstr_back s2, ← bstr_back s3, ← bstr_back s4]
  rfl
end
end Go.Proofs.YtcedfapcpmedfaaGreatDoor
