/- Making a delta, as functions on lists: inserts and copies in parts, what they tell, how many bytes they take; how far two lists are alike. No condition. -/
import Derived.Test.YtpfjkappgdpfbaaDelP
namespace Go.Proofs.Ytpfjkappgdpfbaa
theorem encT_le (fr n : Nat) : ∀ i, (encT fr n i).length ≤ i
  | 0 => by simp [encT]
  | i + 1 => by
    have := encT_le fr n i
    rw [encT]; split
    · omega
    · simp; omega
/-- bytes as inserts of at most 127 -/
def ins (y : List UInt8) : List DOp := if y = [] then [] else ⟨false, 0, 0, y.take 127⟩ :: ins (y.drop 127)
termination_by y.length
decreasing_by
  rename_i h
  have := List.length_pos_iff.2 h
  simp; omega
theorem ins_nil : ins [] = [] := by rw [ins]; rfl
theorem ins_cons {y : List UInt8} (h : y ≠ []) : ins y = ⟨false, 0, 0, y.take 127⟩ :: ins (y.drop 127) := by
  conv => lhs; rw [ins]
  rw [if_neg h]
/-- a copy in parts of at most 65536 -/
def cps (fr n : Nat) : List DOp := if n = 0 then [] else ⟨true, fr, (min n 65536 : Nat), []⟩ :: cps (fr + min n 65536) (n - min n 65536)
termination_by n
decreasing_by omega
theorem cps_zero (fr : Nat) : cps fr 0 = [] := by rw [cps]; rfl
theorem cps_pos {fr n : Nat} (h : 0 < n) : cps fr n = ⟨true, fr, (min n 65536 : Nat), []⟩ :: cps (fr + min n 65536) (n - min n 65536) := by
  conv => lhs; rw [cps]
  rw [if_neg (by omega)]
def text (base : List UInt8) (l : List DOp) : List UInt8 := l.flatMap (opB base)
def Good (base : List UInt8) (l : List DOp) : Prop := ∀ o ∈ l, okOp o ∧ opIn base o
theorem text_nil (base : List UInt8) : text base [] = [] := rfl
theorem text_append (base : List UInt8) (a b : List DOp) : text base (a ++ b) = text base a ++ text base b := by unfold text; rw [List.flatMap_append]
theorem text_cons (base : List UInt8) (o : DOp) (b : List DOp) : text base (o :: b) = opB base o ++ text base b := by unfold text; rw [List.flatMap_cons]
theorem encs_append (a b : List DOp) : encs (a ++ b) = encs a ++ encs b := by unfold encs; rw [List.flatMap_append]
theorem encs_cons (o : DOp) (b : List DOp) : encs (o :: b) = enc o ++ encs b := by unfold encs; rw [List.flatMap_cons]
theorem encs_nil : encs [] = [] := rfl
theorem Good.nil (base : List UInt8) : Good base [] := fun o h => by simp at h
theorem Good.append {base : List UInt8} {a b : List DOp} (h1 : Good base a) (h2 : Good base b) : Good base (a ++ b) := fun o h => by
  rcases List.mem_append.1 h with h | h
  · exact h1 o h
  · exact h2 o h
theorem Good.cons {base : List UInt8} {o : DOp} {b : List DOp} (h1 : okOp o ∧ opIn base o) (h2 : Good base b) : Good base (o :: b) := fun p h => by
  rcases List.mem_cons.1 h with h | h
  · rw [h]; exact h1
  · exact h2 p h
theorem ins_spec (base : List UInt8) : ∀ (k : Nat) (y : List UInt8), y.length ≤ k → Good base (ins y) ∧ text base (ins y) = y ∧ (encs (ins y)).length ≤ 2 * y.length
  | 0, y, h => by
    have : y = [] := List.eq_nil_of_length_eq_zero (by omega)
    subst this
    rw [ins_nil]
    exact ⟨Good.nil _, rfl, by simp [encs_nil]⟩
  | k + 1, y, h => by
    by_cases hy : y = []
    · subst hy
      rw [ins_nil]
      exact ⟨Good.nil _, rfl, by simp [encs_nil]⟩
    · have hp := List.length_pos_iff.2 hy
      obtain ⟨h1, h2, h3⟩ := ins_spec base k (y.drop 127) (by simp; omega)
      rw [ins_cons hy]
      refine ⟨h1.cons ⟨?_, fun h => by cases h⟩, ?_, ?_⟩
      · unfold okOp
        rw [if_neg (by simp)]
        simp; omega
      · rw [text_cons, h2]
        simp [opB]
      · rw [encs_cons, List.length_append]
        have e : (enc ⟨false, 0, 0, y.take 127⟩).length = (y.take 127).length + 1 := by simp [enc]
        rw [e]
        simp at h3 ⊢
        omega
theorem cps_spec (base : List UInt8) (hb : base.length ≤ 4294967296) : ∀ (k : Nat) (fr n : Nat), n ≤ k → fr + n ≤ base.length → Good base (cps fr n) ∧ text base (cps fr n) = (base.drop fr).take n ∧ 65536 * (encs (cps fr n)).length ≤ 8 * (n + 65535)
  | 0, fr, n, h, hr => by
    obtain rfl : n = 0 := by omega
    rw [cps_zero]
    exact ⟨Good.nil _, by simp [text_nil], by simp [encs_nil]⟩
  | k + 1, fr, n, h, hr => by
    by_cases hn : n = 0
    · subst hn
      rw [cps_zero]
      exact ⟨Good.nil _, by simp [text_nil], by simp [encs_nil]⟩
    · obtain ⟨m, hm⟩ : ∃ m, m = min n 65536 := ⟨_, rfl⟩
      obtain ⟨h1, h2, h3⟩ := cps_spec base hb k (fr + m) (n - m) (by omega) (by omega)
      rw [cps_pos (by omega), ← hm]
      have hok : okOp ⟨true, fr, (m : Nat), []⟩ := by
        unfold okOp
        rw [if_pos rfl]
        simp; omega
      refine ⟨h1.cons ⟨hok, fun _ => ?_⟩, ?_, ?_⟩
      · simp; omega
      · rw [text_cons, h2]
        simp only [opB, if_true, Int.toNat_natCast]
        rw [← List.drop_drop]
        have e : n = m + (n - m) := by omega
        conv => rhs; rw [e]
        rw [List.take_add]
      · rw [encs_cons, List.length_append]
        have e : (enc ⟨true, fr, (m : Nat), []⟩).length ≤ 8 := by
          have := encT_le fr (cutN m) 7
          simp [enc, encCopy]; omega
        by_cases hbig : 65536 < n
        · omega
        · have h0 : n - m = 0 := by omega
          rw [h0, cps_zero] at *
          simp [encs_nil] at *
          omega
theorem applyR_text (base : List UInt8) (size : Nat) : ∀ (l : List DOp) (out : List UInt8), Good base l → (out ++ text base l).length = size → applyR base size l out = (out ++ text base l, 0)
  | [], out, _, h => by
    simp only [text_nil, List.append_nil] at h ⊢
    rw [applyR, if_pos h]
  | o :: l, out, hg, h => by
    obtain ⟨h1, h2⟩ := hg o (by simp)
    rw [text_cons, ← List.append_assoc] at h ⊢
    have hl := h
    rw [List.length_append, List.length_append] at hl
    rw [applyR, if_pos h2, if_neg (by omega)]
    exact applyR_text base size l _ (fun p hp => hg p (by simp [hp])) h
/-- what a delta that was made must be -/
def MadeBy (base target : List UInt8) (ops : List DOp) : Prop := Good base ops ∧ text base ops = target
theorem applyD_made {base target : List UInt8} {ops : List DOp} (h : MadeBy base target ops) (hb : base.length < 2 ^ 63) (ht : target.length < 2 ^ 63) (most : Int) :
    applyD base (putSize base.length ++ putSize target.length ++ encs ops) most = if most < target.length then ([], 5) else (target, 0) := by
  obtain ⟨hs, hd⟩ := deltaR_print base.length target.length hb ht ops (fun o ho => (h.1 o ho).1)
  unfold applyD
  rw [hd]
  simp only [if_true]
  split
  · rfl
  · rw [applyR_text base target.length ops [] h.1 (by simp [h.2]), h.2]; rfl
/-- another base's length is refused -/
theorem applyD_other {base b2 target : List UInt8} {ops : List DOp} (h : MadeBy base target ops) (hb : base.length < 2 ^ 63) (ht : target.length < 2 ^ 63) (most : Int) (hne : b2.length ≠ base.length) :
    applyD b2 (putSize base.length ++ putSize target.length ++ encs ops) most = ([], 2) := by
  obtain ⟨hs, hd⟩ := deltaR_print base.length target.length hb ht ops (fun o ho => (h.1 o ho).1)
  unfold applyD
  rw [hd]
  simp only [if_true]
  rw [if_neg (fun e => hne e.symm)]
/-! how far two lists are alike -/
def alike : List UInt8 → List UInt8 → Nat
  | a :: l, b :: m => if a = b then alike l m + 1 else 0
  | _, _ => 0
theorem alike_le : ∀ (l m : List UInt8), alike l m ≤ l.length ∧ alike l m ≤ m.length
  | [], m => by simp [alike]
  | a :: l, [] => by simp [alike]
  | a :: l, b :: m => by
    have := alike_le l m
    simp only [alike]
    split
    · simp; omega
    · simp
theorem alike_take : ∀ (l m : List UInt8), l.take (alike l m) = m.take (alike l m)
  | [], m => by simp [alike]
  | a :: l, [] => by simp [alike]
  | a :: l, b :: m => by
    simp only [alike]
    split
    · rename_i h
      rw [List.take_succ_cons, List.take_succ_cons, alike_take l m, h]
    · simp
theorem alike_step {l m : List UInt8} {n : Nat} (h1 : n < l.length) (h2 : n < m.length) : alike (l.drop n) (m.drop n) = if l[n] = m[n] then alike (l.drop (n + 1)) (m.drop (n + 1)) + 1 else 0 := by
  rw [List.drop_eq_getElem_cons h1, List.drop_eq_getElem_cons h2, alike]
theorem alike_end {l m : List UInt8} {n : Nat} (h : ¬ (n < l.length ∧ n < m.length)) : alike (l.drop n) (m.drop n) = 0 := by
  by_cases h1 : n < l.length
  · have : m.drop n = [] := List.drop_eq_nil_of_le (by omega)
    rw [this]
    cases l.drop n <;> rfl
  · have : l.drop n = [] := List.drop_eq_nil_of_le (by omega)
    rw [this]; rfl
theorem alike_ge : ∀ (p l m : List UInt8), p.length ≤ alike (p ++ l) (p ++ m)
  | [], l, m => by simp
  | a :: p, l, m => by
    have := alike_ge p l m
    simp only [List.cons_append, alike, if_true, List.length_cons]
    omega
def behind (a b : List UInt8) : Nat := alike a.reverse b.reverse
theorem behind_le (a b : List UInt8) : behind a b ≤ a.length ∧ behind a b ≤ b.length := by
  have := alike_le a.reverse b.reverse
  simpa [behind] using this
theorem behind_drop (a b : List UInt8) : a.drop (a.length - behind a b) = b.drop (b.length - behind a b) := by
  have h := alike_take a.reverse b.reverse
  have h1 := congrArg List.reverse h
  rw [List.reverse_take, List.reverse_take] at h1
  simpa [behind] using h1
theorem behind_ge (p l m : List UInt8) : p.length ≤ behind (l ++ p) (m ++ p) := by
  have := alike_ge p.reverse l.reverse m.reverse
  simpa [behind] using this
end Go.Proofs.Ytpfjkappgdpfbaa
