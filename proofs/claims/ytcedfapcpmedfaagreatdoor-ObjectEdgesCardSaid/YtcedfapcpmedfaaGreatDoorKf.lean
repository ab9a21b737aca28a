/- Texts as lists of bytes: a sign, a part of a text. No condition.
   Texts cut at a sign, split at each; plain laws. No condition.
   Objects as functions on lists of bytes: words, canonical bytes, commits, tags, a commit's date. Plain laws. No condition.
   A commit's lines, a tag's lines: what is read is what was written; the reference's way comes to the same. Plain laws. No condition.
   A tag's lines: what is read is what was written; the reference's way comes to the same. Plain laws. No condition.
   Word and KindOf, the program's and the reference's: wordI, kindI. No condition.
   slices.Grow of nothing, slices.Concat of two lists of bytes. Conditions: at most 2^40 bytes each. -/
import Derived.Test.YtcedfapcpmedfaaGreatDoorKa
import Derived.Laws.DeepStrings4
import Derived.Lib.SplitLaws
import Derived.Test.YtcedfapcpmedfaaGreatDoorKb
import Derived.Lib.ItoaNum
import Derived.Lib.AppendZeros
namespace Go.Proofs.YtcedfapcpmedfaaGreatDoor
section
open Go.RowKit
set_option maxRecDepth 100000
set_option maxHeartbeats 1000000
set_option linter.unusedVariables false
theorem bstr_size (s : List UInt8) : (bstr s).size = s.length := by show s.toArray.size = _; simp
theorem ext_bstr (s : List UInt8) (i j : Nat) : (bstr s).extract i j = bstr ((s.drop i).take (j - i)) := by
  apply ByteArray.ext
  rw [ByteArray.data_extract]
  apply Array.ext'
  rw [Array.toList_extract, List.extract_eq_take_drop]
theorem idx_str (s : List UInt8) (i : Nat) (h : i < s.length) (w : World) : (Instr.index 9 (.string (bstr s)) (.int .i64 (i : Int))).run Tryz.prog w = .ok (.int .u8 ((s[i]).toNat : Int)) w := by
  rw [run_index_string w 9 (bstr s) .i64 (i : Int) Tryz.underlying9, dif_pos ⟨by omega, by rw [bstr_size]; omega⟩]
  rfl
theorem str_lh (s : List UInt8) (i j : Nat) (h : i ≤ j) (hj : j ≤ s.length) (w : World) : (Instr.slice 9 (.string (bstr s)) (some (.int .i64 (i : Int))) (some (.int .i64 (j : Int))) none).run Tryz.prog w = .ok (.string (bstr ((s.drop i).take (j - i)))) w := by
  rw [run_slice_string_if w 9 (bstr s) .i64 .i64 i j Tryz.underlying9, if_pos ⟨by omega, by rw [bstr_size]; omega⟩, if_pos ⟨by omega, by omega⟩, ext_bstr]
  rfl
theorem str_l (s : List UInt8) (i : Nat) (h : i ≤ s.length) (w : World) : (Instr.slice 9 (.string (bstr s)) (some (.int .i64 (i : Int))) none none).run Tryz.prog w = .ok (.string (bstr (s.drop i))) w := by
  rw [run_slice_string_l w 9 (bstr s) Tryz.underlying9 .i64 i (by omega) (by rw [bstr_size]; omega), ext_bstr, bstr_size]
  simp only [Int.toNat_natCast]
  rw [List.take_of_length_le (by rw [List.length_drop]; exact Nat.le_refl _)]
theorem str_h (s : List UInt8) (j : Nat) (h : j ≤ s.length) (w : World) : (Instr.slice 9 (.string (bstr s)) none (some (.int .i64 (j : Int))) none).run Tryz.prog w = .ok (.string (bstr (s.take j))) w := by
  rw [run_slice_string_h w 9 (bstr s) Tryz.underlying9 .i64 j (by omega) (by rw [bstr_size]; omega), ext_bstr]
  rfl
theorem bstr_app (a b : List UInt8) : (bstr a ++ bstr b : ByteArray) = bstr (a ++ b) := by
  apply ByteArray.ext
  simp
end
section
set_option linter.unusedVariables false
theorem ib_none {c : UInt8} : ∀ {l : List UInt8}, c ∉ l → Lib.indexByte l c = -1
  | [], _ => rfl
  | b :: l, h => by
    have h1 : b ≠ c := fun e => h (by simp [e])
    have h2 := ib_none (l := l) (fun e : c ∈ l => h (List.mem_cons_of_mem _ e))
    unfold Lib.indexByte
    rw [if_neg (by simpa using h1), h2]
    rfl
theorem ib_some {c : UInt8} : ∀ {a : List UInt8} (b : List UInt8), c ∉ a → Lib.indexByte (a ++ c :: b) c = a.length
  | [], b, _ => by simp [Lib.indexByte]
  | x :: a, b, h => by
    have h1 : x ≠ c := fun e => h (by simp [e])
    have h2 := ib_some (a := a) b (fun e : c ∈ a => h (List.mem_cons_of_mem _ e))
    show (if x == c then (0 : Int) else if Lib.indexByte (a ++ c :: b) c == -1 then -1 else Lib.indexByte (a ++ c :: b) c + 1) = _
    rw [if_neg (by simpa using h1), h2, if_neg (by simp)]
    simp
theorem cut_no {c : UInt8} {s : List UInt8} (h : c ∉ s) : Lib.cut s [c] = (s, [], false) := by
  unfold Lib.cut
  rw [Lib.index_one, ib_none h, if_neg (by decide)]
theorem cut_yes {c : UInt8} {a : List UInt8} (b : List UInt8) (h : c ∉ a) : Lib.cut (a ++ c :: b) [c] = (a, b, true) := by
  unfold Lib.cut
  rw [Lib.index_one, ib_some b h, if_pos (by omega)]
  simp
theorem two_ways (c : UInt8) (s : List UInt8) : c ∉ s ∨ ∃ a b, s = a ++ c :: b ∧ c ∉ a := by
  by_cases h : c ∈ s
  · exact .inr (List.eq_append_cons_of_mem h)
  · exact .inl h
/-- cut at each c -/
def sp (c : UInt8) : List UInt8 → List (List UInt8)
  | [] => [[]]
  | x :: l => if x = c then [] :: sp c l else match sp c l with
    | h :: t => (x :: h) :: t
    | [] => [[x]]
theorem sp_ne (c : UInt8) : ∀ l, sp c l ≠ []
  | [] => by simp [sp]
  | x :: l => by
    unfold sp
    split
    · simp
    · split <;> simp
theorem sp_none {c : UInt8} : ∀ {s : List UInt8}, c ∉ s → sp c s = [s]
  | [], _ => rfl
  | x :: l, h => by
    have h1 : x ≠ c := fun e => h (by simp [e])
    have h2 := sp_none (s := l) (fun e : c ∈ l => h (List.mem_cons_of_mem _ e))
    rw [sp, if_neg h1, h2]
theorem sp_some {c : UInt8} : ∀ {a : List UInt8} (b : List UInt8), c ∉ a → sp c (a ++ c :: b) = a :: sp c b
  | [], b, _ => by simp [sp]
  | x :: a, b, h => by
    have h1 : x ≠ c := fun e => h (by simp [e])
    have h2 := sp_some (a := a) b (fun e : c ∈ a => h (List.mem_cons_of_mem _ e))
    rw [List.cons_append, sp, if_neg h1, h2]
theorem count_len {c : UInt8} (s : List UInt8) : (sp c s).length = s.count c + 1 := by
  induction s with
  | nil => rfl
  | cons x l ih =>
    unfold sp
    by_cases h : x = c
    · subst h
      rw [if_pos rfl, List.length_cons, ih, List.count_cons_self]
    · rw [if_neg h, List.count_cons_of_ne h]
      have := sp_ne c l
      generalize sp c l = q at *
      match q with
      | [] => exact absurd rfl this
      | h :: t => simpa using ih
theorem splitK_sp (c : UInt8) : ∀ (n : Nat) (s : List UInt8), s.length ≤ n → Lib.splitK [c] 0 (s.count c) s = sp c s
  | n, s, hn => by
    rcases two_ways c s with h | ⟨a, b, rfl, h⟩
    · rw [List.count_eq_zero_of_not_mem h, sp_none h]; rfl
    · match n with
      | 0 => simp at hn
      | n + 1 =>
        have ih := splitK_sp c n b (by simp at hn; omega)
        rw [sp_some b h]
        rw [show (a ++ c :: b).count c = b.count c + 1 by rw [List.count_append, List.count_eq_zero_of_not_mem h, List.count_cons_self]; omega]
        rw [Lib.splitK, Lib.index_one, ib_some b h, if_neg (by simp)]
        simp only [Int.toNat_natCast, Nat.add_zero, List.length_singleton]
        rw [show (a ++ c :: b).take a.length = a by simp, show (a ++ c :: b).drop (a.length + 1) = b by simp, ih]
theorem split_sp (c : UInt8) (s : List UInt8) : Lib.split s [c] = sp c s := by
  unfold Lib.split
  rw [Lib.count_one]
  exact splitK_sp c _ s (Nat.le_refl _)
/-- one sign more behind -/
def addL (q : List (List UInt8)) (x : UInt8) : List (List UInt8) := q.dropLast ++ [q.getLastD [] ++ [x]]
theorem sp_snoc_c (c : UInt8) : ∀ l, sp c (l ++ [c]) = sp c l ++ [[]]
  | [] => by simp [sp]
  | x :: l => by
    have ih := sp_snoc_c c l
    rw [List.cons_append, sp, sp, ih]
    by_cases h : x = c
    · rw [if_pos h, if_pos h]; rfl
    · rw [if_neg h, if_neg h]
      have := sp_ne c l
      generalize sp c l = q at *
      match q with
      | [] => exact absurd rfl this
      | h :: t => rfl
theorem sp_snoc_x {c x : UInt8} (hx : x ≠ c) : ∀ l, sp c (l ++ [x]) = addL (sp c l) x
  | [] => by simp [sp, hx, addL]
  | y :: l => by
    have ih := sp_snoc_x hx l
    rw [List.cons_append, sp, sp, ih]
    by_cases h : y = c
    · rw [if_pos h, if_pos h]
      have := sp_ne c l
      generalize sp c l = q at *
      match q with
      | [] => exact absurd rfl this
      | h :: t => simp [addL, List.getLastD]
    · rw [if_neg h, if_neg h]
      have := sp_ne c l
      generalize sp c l = q at *
      match q with
      | [] => exact absurd rfl this
      | [h] => simp [addL, List.getLastD]
      | h :: h2 :: t => simp [addL, List.getLastD]
theorem sp_mem {c x : UInt8} (hx : x ≠ c) : ∀ {l : List UInt8}, x ∈ l → ∃ q ∈ sp c l, x ∈ q
  | [], h => by simp at h
  | y :: l, h => by
    unfold sp
    by_cases hy : y = c
    · rw [if_pos hy]
      rcases List.mem_cons.1 h with e | e
      · exact absurd (e.trans hy) hx
      · obtain ⟨q, h1, h2⟩ := sp_mem hx e
        exact ⟨q, List.mem_cons_of_mem _ h1, h2⟩
    · rw [if_neg hy]
      rcases List.mem_cons.1 h with e | e
      · subst e
        generalize sp c l = q
        match q with
        | [] => exact ⟨[x], by simp, by simp⟩
        | h :: t => exact ⟨x :: h, by simp, by simp⟩
      · obtain ⟨q, h1, h2⟩ := sp_mem hx e
        have := sp_ne c l
        generalize sp c l = r at *
        match r with
        | [] => exact absurd rfl this
        | h :: t =>
          rcases List.mem_cons.1 h1 with e1 | e1
          · subst e1; exact ⟨y :: q, by simp, by simp [h2]⟩
          · exact ⟨q, by simp [e1], h2⟩
theorem sp_pre {c : UInt8} : ∀ (a b : List UInt8), sp c (a ++ c :: b) = sp c a ++ sp c b
  | [], b => by simp [sp]
  | x :: a, b => by
    have ih := sp_pre (c := c) a b
    rw [List.cons_append, sp, sp, ih]
    by_cases h : x = c
    · rw [if_pos h, if_pos h]; rfl
    · rw [if_neg h, if_neg h]
      have := sp_ne c a
      generalize sp c a = q at *
      match q with
      | [] => exact absurd rfl this
      | h :: t => rfl
theorem cut_len {c : UInt8} {s : List UInt8} (h : (Lib.cut s [c]).2.2 = true) : (Lib.cut s [c]).1.length + 1 + (Lib.cut s [c]).2.1.length = s.length := by
  by_cases hm : c ∈ s
  · obtain ⟨a, b, rfl, hn⟩ := List.eq_append_cons_of_mem hm
    rw [cut_yes b hn]
    simp; omega
  · rw [cut_no hm] at h; cases h
theorem cut_le {c : UInt8} (s : List UInt8) : (Lib.cut s [c]).1.length ≤ s.length := by
  by_cases hm : c ∈ s
  · obtain ⟨a, b, rfl, hn⟩ := List.eq_append_cons_of_mem hm
    rw [cut_yes b hn]
    simp
  · rw [cut_no hm]; exact Nat.le_refl _
theorem parseI_40 {t : List UInt8} (h : (parseI t).2 = 0) : t.length = 40 := by
  by_cases hc : t.length = 40 ∧ allHex t
  · exact hc.1
  · unfold parseI at h
    rw [if_neg hc] at h
    cases h
theorem cut_found {c : UInt8} {s : List UInt8} {m : Nat} (hm : m < s.length) (hc : s[m] = c) (hno : ∀ j (h : j < m), s[j]'(by omega) ≠ c) : Lib.cut s [c] = (s.take m, s.drop (m + 1), true) := by
  have e : s = s.take m ++ c :: s.drop (m + 1) := by rw [← hc, List.getElem_cons_drop, List.take_append_drop]
  have hn : c ∉ s.take m := fun h => by
    obtain ⟨j, hj, hjc⟩ := List.mem_iff_getElem.1 h
    rw [List.getElem_take] at hjc
    exact hno j (by rw [List.length_take] at hj; omega) hjc
  have := cut_yes (s.drop (m + 1)) hn
  rwa [← e] at this
theorem cut_lost {c : UInt8} {s : List UInt8} (hno : ∀ j (h : j < s.length), s[j] ≠ c) : (Lib.cut s [c]).2.2 = false := by
  rw [cut_no (fun h => by
    obtain ⟨j, hj, hjc⟩ := List.mem_iff_getElem.1 h
    exact hno j hj hjc)]
end
section
set_option linter.unusedVariables false
def wordI (k : Int) : List UInt8 := if k = 1 then [99, 111, 109, 109, 105, 116] else if k = 2 then [116, 114, 101, 101] else if k = 3 then [98, 108, 111, 98] else if k = 4 then [116, 97, 103] else []
def kindI (w : List UInt8) : Nat × Bool := if w = wordI 1 then (1, true) else if w = wordI 2 then (2, true) else if w = wordI 3 then (3, true) else if w = wordI 4 then (4, true) else (0, false)
def headI (k : Int) (n : Nat) : List UInt8 := wordI k ++ 32 :: Lib.decDigits n
def canonI (k : Int) (b : List UInt8) : List UInt8 := if wordI k = [] then [] else headI k b.length ++ 0 :: b
/-- an object's bytes out of the canonical ones: kind, bytes, error -/
def openI (c : List UInt8) : Nat × List UInt8 × Nat :=
  if (Lib.cut c [0]).2.2 = false then (0, [], 2) else
  if (Lib.cut (Lib.cut c [0]).1 [32]).2.2 = false then (0, [], 2) else
  if (kindI (Lib.cut (Lib.cut c [0]).1 [32]).1).2 = false then (0, [], 2) else
  if (Lib.cut (Lib.cut c [0]).1 [32]).2.1 ≠ Lib.decDigits (Lib.cut c [0]).2.1.length then (0, [], 2) else
  if 16384 < (Lib.cut c [0]).2.1.length then (0, [], 5) else ((kindI (Lib.cut (Lib.cut c [0]).1 [32]).1).1, (Lib.cut c [0]).2.1, 0)
theorem word_sign : ∀ k : Int, ∀ c ∈ wordI k, c ≠ 0 ∧ c ≠ 32 := by
  intro k c h
  unfold wordI at h
  split at h
  · revert c; decide
  · split at h
    · revert c; decide
    · split at h
      · revert c; decide
      · split at h
        · revert c; decide
        · simp at h
theorem kind_word (k : Nat) (h : wordI k ≠ []) : kindI (wordI k) = (k, true) := by
  by_cases h1 : k = 1
  · subst h1; decide
  · by_cases h2 : k = 2
    · subst h2; decide
    · by_cases h3 : k = 3
      · subst h3; decide
      · by_cases h4 : k = 4
        · subst h4; decide
        · exfalso
          apply h
          unfold wordI
          rw [if_neg (by omega), if_neg (by omega), if_neg (by omega), if_neg (by omega)]
theorem kind_some {w : List UInt8} {k : Nat} (h : kindI w = (k, true)) : w = wordI k ∧ (k = 1 ∨ k = 2 ∨ k = 3 ∨ k = 4) := by
  unfold kindI at h
  split at h
  · rename_i hw
    injection h with h1 _
    subst h1; exact ⟨hw, by simp⟩
  · split at h
    · rename_i hw
      injection h with h1 _
      subst h1; exact ⟨hw, by simp⟩
    · split at h
      · rename_i hw
        injection h with h1 _
        subst h1; exact ⟨hw, by simp⟩
      · split at h
        · rename_i hw
          injection h with h1 _
          subst h1; exact ⟨hw, by simp⟩
        · injection h with _ h2; cases h2
theorem dec_sign : ∀ (f n : Nat), n ≤ f → ∀ c ∈ Lib.decDigits n, 48 ≤ c.toNat ∧ c.toNat ≤ 57 := by
  have small : ∀ n < 10, 48 ≤ (UInt8.ofNat (48 + n)).toNat ∧ (UInt8.ofNat (48 + n)).toNat ≤ 57 := by decide
  intro f
  induction f with
  | zero =>
    intro n hn c hc
    obtain rfl : n = 0 := by omega
    rw [Lib.decDigits_one (by omega)] at hc
    obtain rfl := List.mem_singleton.1 hc
    exact small 0 (by omega)
  | succ f ih =>
    intro n hn c hc
    by_cases h : n < 10
    · rw [Lib.decDigits_one h] at hc
      obtain rfl := List.mem_singleton.1 hc
      exact small n h
    · rw [Lib.decDigits, dif_neg h] at hc
      rcases List.mem_append.1 hc with e | e
      · exact ih (n / 10) (by omega) c e
      · obtain rfl := List.mem_singleton.1 e
        exact small (n % 10) (by omega)
theorem dec_no {n : Nat} {c : UInt8} (h : c.toNat < 48 ∨ 57 < c.toNat) : c ∉ Lib.decDigits n := fun e => by
  have := dec_sign n n (Nat.le_refl _) c e
  omega
theorem head_no0 (k : Int) (n : Nat) : (0 : UInt8) ∉ headI k n := fun e => by
  rcases List.mem_append.1 e with e | e
  · exact (word_sign k 0 e).1 rfl
  · rcases List.mem_cons.1 e with e | e
    · exact absurd e (by decide)
    · exact dec_no (by decide) e
/-- what is canonical is opened to what it was made of -/
theorem open_canon (k : Nat) (b : List UInt8) (h : wordI k ≠ []) : openI (canonI k b) = if 16384 < b.length then (0, [], 5) else (k, b, 0) := by
  have hc : Lib.cut (canonI k b) [0] = (headI k b.length, b, true) := by
    unfold canonI
    rw [if_neg h]
    exact cut_yes b (head_no0 _ _)
  have hh : Lib.cut (headI k b.length) [32] = (wordI k, Lib.decDigits b.length, true) := cut_yes _ (fun e => (word_sign k 32 e).2 rfl)
  unfold openI
  rw [hc]
  simp only [hh, kind_word k h, Bool.true_eq_false, if_false, ne_eq, not_true_eq_false]
theorem open_nil : openI [] = (0, [], 2) := by decide
theorem cut_whole {c : UInt8} {s : List UInt8} (h : (Lib.cut s [c]).2.2 = true) : s = (Lib.cut s [c]).1 ++ c :: (Lib.cut s [c]).2.1 ∧ c ∉ (Lib.cut s [c]).1 := by
  by_cases hm : c ∈ s
  · obtain ⟨a, b, rfl, hn⟩ := List.eq_append_cons_of_mem hm
    rw [cut_yes b hn]
    exact ⟨rfl, hn⟩
  · rw [cut_no hm] at h; cases h
/-- the other way: what is opened was canonical -/
theorem open_some (c : List UInt8) : (∃ (k : Nat) (b : List UInt8), wordI k ≠ [] ∧ c = headI k b.length ++ 0 :: b) ∨ openI c = (0, [], 2) := by
  unfold openI
  cases h1 : (Lib.cut c [0]).2.2 with
  | false => exact .inr (by simp)
  | true =>
    obtain ⟨w1, n1⟩ := cut_whole h1
    obtain ⟨hd, hhd⟩ : ∃ hd, hd = (Lib.cut c [0]).1 := ⟨_, rfl⟩
    obtain ⟨b, hb⟩ : ∃ b, b = (Lib.cut c [0]).2.1 := ⟨_, rfl⟩
    rw [← hhd, ← hb] at w1
    rw [← hhd, ← hb]
    cases h2 : (Lib.cut hd [32]).2.2 with
    | false => exact .inr (by simp)
    | true =>
      obtain ⟨w2, n2⟩ := cut_whole h2
      cases h3 : kindI (Lib.cut hd [32]).1 with
      | mk k ok =>
        cases ok with
        | false => exact .inr (by simp)
        | true =>
          obtain ⟨e1, e2⟩ := kind_some h3
          by_cases h4 : (Lib.cut hd [32]).2.1 = Lib.decDigits b.length
          · refine .inl ⟨k, b, ?_, ?_⟩
            · rcases e2 with rfl | rfl | rfl | rfl <;> decide
            · rw [w1]
              congr 1
              rw [w2, e1, h4]; rfl
          · exact .inr (by simp [h4])
/-- the order of entries -/
def keyI (m : Int) (s : List UInt8) : List UInt8 := if m = 16384 then s ++ [47] else s
/-- a commit, a tag -/
structure Cm where
  tree : List UInt8
  parents : List (List UInt8)
  author : List UInt8
  committer : List UInt8
  message : List UInt8
structure Tg where
  object : List UInt8
  kind : Int
  name : List UInt8
  tagger : List UInt8
  message : List UInt8
def textI (s : List UInt8) (most : Nat) : Bool := !(s == []) && decide (s.length ≤ most) && !(s.contains 0) && !(s.contains 10)
def wrongC (c : Cm) : Bool := decide (512 < c.parents.length) || !(decide c.parents.Nodup) || !(textI c.author 200) || !(textI c.committer 200)
def wTree : List UInt8 := [116, 114, 101, 101, 32]
def wParent : List UInt8 := [112, 97, 114, 101, 110, 116, 32]
def wAuthor : List UInt8 := [97, 117, 116, 104, 111, 114, 32]
def wCommitter : List UInt8 := [99, 111, 109, 109, 105, 116, 116, 101, 114, 32]
def cmB (c : Cm) : List UInt8 := wTree ++ hexs c.tree ++ [10] ++ c.parents.flatMap (fun p => wParent ++ hexs p ++ [10]) ++ wAuthor ++ c.author ++ [10] ++ wCommitter ++ c.committer ++ [10, 10] ++ c.message
def encC (c : Cm) : List UInt8 × Nat := if wrongC c = true then ([], 1) else if 16384 < (cmB c).length then ([], 5) else (cmB c, 0)
/-- lines, one by one -/
structure Ln where
  s : List UInt8
  bad : Bool
def nextI (l : Ln) (front : List UInt8) : List UInt8 × Bool × Ln :=
  if (Lib.cut l.s [10]).2.2 = true ∧ Lib.hasPrefix (Lib.cut l.s [10]).1 front = true then ((Lib.cut l.s [10]).1.drop front.length, true, ⟨(Lib.cut l.s [10]).2.1, l.bad⟩) else ([], false, l)
def mustI (l : Ln) (front : List UInt8) : List UInt8 × Ln := ((nextI l front).1, ⟨(nextI l front).2.2.s, l.bad || !(nextI l front).2.1⟩)
def idI (l : Ln) (v : List UInt8) : List UInt8 × Ln := ((parseI v).1, ⟨l.s, l.bad || !(decide ((parseI v).2 = 0))⟩)
def emptyI (l : Ln) : Ln := ⟨(mustI l []).2.s, (mustI l []).2.bad || !((mustI l []).1 == [])⟩
def parsI : Nat → Ln → List (List UInt8) × Ln
  | 0, l => ([], l)
  | n + 1, l => if (nextI l wParent).2.1 = true then
      ((idI (nextI l wParent).2.2 (nextI l wParent).1).1 :: (parsI n (idI (nextI l wParent).2.2 (nextI l wParent).1).2).1, (parsI n (idI (nextI l wParent).2.2 (nextI l wParent).1).2).2)
    else ([], l)
def noCm : Cm := ⟨List.replicate 20 0, [], [], [], []⟩
def decCraw (b : List UInt8) : Cm × Ln :=
  let t := mustI ⟨b, false⟩ wTree
  let i := idI t.2 t.1
  let p := parsI (b.length + 1) i.2
  let a := mustI p.2 wAuthor
  let c := mustI a.2 wCommitter
  let e := emptyI c.2
  (⟨i.1, p.1, a.1, c.1, e.s⟩, e)
def decC (b : List UInt8) : Cm × Nat := if 16384 < b.length then (noCm, 5) else if ((decCraw b).2.bad || wrongC (decCraw b).1) = true then (noCm, 2) else ((decCraw b).1, 0)
/-- a commit's date -/
def digI (c : UInt8) : Bool := decide (48 ≤ c.toNat) && decide (c.toNat ≤ 57)
def numI (s : List UInt8) : Nat := s.foldl (fun n c => 10 * n + (c.toNat - 48)) 0
def wordsI (s : List UInt8) : List (List UInt8) := (sp 32 s).filter (fun p => !(p == []))
def dateI (s : List UInt8) : Nat :=
  if (wordsI s).length < 2 then 0 else if 10 < ((wordsI s).getD ((wordsI s).length - 2) []).length then 0 else
  if ((wordsI s).getD ((wordsI s).length - 2) []).all digI = true then numI ((wordsI s).getD ((wordsI s).length - 2) []) else 0
end
section
set_option linter.unusedVariables false
theorem hp_some {l p : List UInt8} (h : Lib.hasPrefix l p = true) : ∃ t, l = p ++ t := by
  unfold Lib.hasPrefix at h
  obtain ⟨t, e⟩ := List.isPrefixOf_iff_prefix.1 h
  exact ⟨t, e.symm⟩
theorem hp_app (p t : List UInt8) : Lib.hasPrefix (p ++ t) p = true := by
  unfold Lib.hasPrefix
  exact List.isPrefixOf_iff_prefix.2 ⟨t, rfl⟩
theorem next_yes {s f v : List UInt8} (bad : Bool) (r : List UInt8) (h : (10 : UInt8) ∉ f ++ v) (e : s = f ++ v ++ 10 :: r) : nextI ⟨s, bad⟩ f = (v, true, ⟨r, bad⟩) := by
  subst e
  unfold nextI
  simp only [cut_yes r h, hp_app, and_self, if_true, List.drop_left]
theorem next_ok {l : Ln} {f : List UInt8} (h : (nextI l f).2.1 = true) : ∃ v r, l.s = f ++ v ++ 10 :: r ∧ (10 : UInt8) ∉ f ++ v ∧ nextI l f = (v, true, ⟨r, l.bad⟩) := by
  by_cases hc : (Lib.cut l.s [10]).2.2 = true ∧ Lib.hasPrefix (Lib.cut l.s [10]).1 f = true
  · obtain ⟨v, hv⟩ := hp_some hc.2
    obtain ⟨e1, e2⟩ := cut_whole hc.1
    rw [hv] at e1 e2
    obtain ⟨s, bad⟩ := l
    exact ⟨v, _, e1, e2, next_yes bad _ e2 e1⟩
  · exfalso
    unfold nextI at h
    rw [if_neg hc] at h
    exact absurd h (by simp)
theorem next_not {l : Ln} {f : List UInt8} (h : (nextI l f).2.1 = false) : nextI l f = ([], false, l) := by
  unfold nextI at h ⊢
  split
  · rename_i hc
    rw [if_pos hc] at h
    exact absurd h (by simp)
  · rfl
theorem next_two (l : Ln) (f : List UInt8) : nextI l f = ([], false, l) ∨ ∃ v r, l.s = f ++ v ++ 10 :: r ∧ (10 : UInt8) ∉ f ++ v ∧ nextI l f = (v, true, ⟨r, l.bad⟩) := by
  cases h : (nextI l f).2.1 with
  | false => exact .inl (next_not h)
  | true => exact .inr (next_ok h)
theorem next_bad (s : List UInt8) (bad : Bool) (f : List UInt8) : nextI ⟨s, bad⟩ f = ((nextI ⟨s, false⟩ f).1, (nextI ⟨s, false⟩ f).2.1, ⟨(nextI ⟨s, false⟩ f).2.2.s, bad⟩) := by
  unfold nextI
  split <;> rfl
theorem must_two (l : Ln) (f : List UInt8) : mustI l f = ([], ⟨l.s, true⟩) ∨ ∃ v r, l.s = f ++ v ++ 10 :: r ∧ (10 : UInt8) ∉ f ++ v ∧ mustI l f = (v, ⟨r, l.bad⟩) := by
  unfold mustI
  rcases next_two l f with e | ⟨v, r, e1, e2, e⟩
  · rw [e]; exact .inl (by simp)
  · rw [e]; exact .inr ⟨v, r, e1, e2, by simp⟩
theorem must_len (l : Ln) (f : List UInt8) : (mustI l f).2.s.length ≤ l.s.length ∧ (mustI l f).1.length ≤ l.s.length := by
  rcases must_two l f with e | ⟨v, r, e1, e2, e⟩
  · rw [e]; exact ⟨Nat.le_refl _, Nat.zero_le _⟩
  · rw [e, e1]; simp; omega
theorem next_len (l : Ln) (f : List UInt8) : (nextI l f).2.2.s.length ≤ l.s.length ∧ (nextI l f).1.length ≤ l.s.length := by
  rcases next_two l f with e | ⟨v, r, e1, e2, e⟩
  · rw [e]; exact ⟨Nat.le_refl _, Nat.zero_le _⟩
  · rw [e, e1]; simp; omega
theorem parse_ok {v : List UInt8} (h : (parseI v).2 = 0) : v = hexs (parseI v).1 := by
  unfold parseI at h
  by_cases hc : v.length = 40 ∧ allHex v
  · obtain ⟨id, h20, rfl⟩ := unhex 20 v (by omega) hc.2
    rw [parseI_hexs id h20]
  · rw [if_neg hc] at h; exact absurd h (by decide)
theorem hexs_no (id : List UInt8) : (10 : UInt8) ∉ hexs id ∧ (0 : UInt8) ∉ hexs id := by
  have := allHex_hexs id
  exact ⟨fun e => absurd (this 10 e) (by decide), fun e => absurd (this 0 e) (by decide)⟩
theorem id_bad {l : Ln} {v : List UInt8} : (idI l v).2.bad = false ↔ l.bad = false ∧ (parseI v).2 = 0 := by
  unfold idI
  simp
theorem empty_two (l : Ln) : (emptyI l).bad = true ∨ ∃ r, l.s = 10 :: r ∧ emptyI l = ⟨r, l.bad⟩ := by
  unfold emptyI
  rcases must_two l [] with e | ⟨v, r, e1, e2, e⟩
  · rw [e]; exact .inl (by simp)
  · rw [e]
    cases v with
    | nil => exact .inr ⟨r, by simpa using e1, by simp⟩
    | cons x t => exact .inl (by simp)
theorem empty_yes (r : List UInt8) (bad : Bool) : emptyI ⟨10 :: r, bad⟩ = ⟨r, bad⟩ := by
  unfold emptyI mustI
  rw [next_yes (s := 10 :: r) (f := []) (v := []) bad r (by simp) rfl]
  simp
theorem empty_bad {l : Ln} (h : (emptyI l).bad = false) : l.bad = false ∧ ∃ r, l.s = 10 :: r ∧ emptyI l = ⟨r, false⟩ := by
  rcases empty_two l with e | ⟨r, e1, e⟩
  · rw [e] at h; cases h
  · rw [e] at h ⊢
    exact ⟨h, r, e1, by rw [show l.bad = false from h]⟩
theorem must_bad {l : Ln} {f : List UInt8} (h : (mustI l f).2.bad = false) : l.bad = false ∧ ∃ v r, l.s = f ++ v ++ 10 :: r ∧ (10 : UInt8) ∉ f ++ v ∧ mustI l f = (v, ⟨r, false⟩) := by
  rcases must_two l f with e | ⟨v, r, e1, e2, e⟩
  · rw [e] at h; cases h
  · have hb : l.bad = false := by rw [e] at h; exact h
    exact ⟨hb, v, r, e1, e2, by rw [e, hb]⟩
def parB (ps : List (List UInt8)) : List UInt8 := ps.flatMap (fun p => wParent ++ hexs p ++ [10])
/-- parents, one by one: the lines ahead, what is left -/
theorem pars_ok : ∀ (n : Nat) (l : Ln), (parsI n l).2.bad = false → l.bad = false ∧ l.s = parB (parsI n l).1 ++ (parsI n l).2.s ∧ ∀ p ∈ (parsI n l).1, p.length = 20
  | 0, l, h => ⟨h, by simp [parsI, parB], by simp [parsI]⟩
  | n + 1, l, h => by
    unfold parsI at h ⊢
    rcases next_two l wParent with e | ⟨v, r, e1, e2, e⟩
    · rw [e] at h ⊢
      exact ⟨h, by simp [parB], by simp⟩
    · rw [e] at h ⊢
      simp only [if_true] at h ⊢
      obtain ⟨h1, h2, h3⟩ := pars_ok n _ h
      obtain ⟨hb, hp⟩ := id_bad.1 h1
      have hv := parse_ok hp
      have h20 := parseI_len v
      have hid : idI ⟨r, l.bad⟩ v = ((parseI v).1, ⟨r, l.bad⟩) := by unfold idI; rw [hp]; simp
      rw [hid] at h2 h3 ⊢
      dsimp only at h2 h3 ⊢
      obtain ⟨q, hq⟩ : ∃ q, q = (parseI v).1 := ⟨_, rfl⟩
      rw [← hq] at hv h20 ⊢
      refine ⟨hb, ?_, ?_⟩
      · rw [e1, hv]
        conv => lhs; rw [h2]
        simp [parB]
      · intro p hp
        rcases List.mem_cons.1 hp with rfl | hp
        · exact h20
        · exact h3 p hp
theorem raw_ok {b : List UInt8} (h : (decCraw b).2.bad = false) : cmB (decCraw b).1 = b ∧ (decCraw b).1.tree.length = 20 ∧ ∀ p ∈ (decCraw b).1.parents, p.length = 20 := by
  unfold decCraw at h ⊢
  dsimp only at h ⊢
  obtain ⟨h1, r, e1, e⟩ := empty_bad h
  rw [e]
  obtain ⟨h2, vc, rc, ec, nc, hc⟩ := must_bad h1
  rw [hc] at e1 ⊢
  obtain ⟨h3, va, ra, ea, na, ha⟩ := must_bad h2
  rw [ha] at ec ⊢
  obtain ⟨h4, ep, hp⟩ := pars_ok _ _ h3
  obtain ⟨h5, ht⟩ := id_bad.1 h4
  obtain ⟨_, vt, rt, et, nt, hm⟩ := must_bad h5
  rw [hm] at ep ht ⊢
  dsimp only at e1 ec et ep ht ⊢
  have hv := parse_ok ht
  have h20 := parseI_len vt
  have hid : idI ⟨rt, false⟩ vt = ((parseI vt).1, ⟨rt, false⟩) := by unfold idI; rw [ht]; simp
  rw [hm] at ea hp
  dsimp only at ea hp
  rw [hid] at ep ea hp ⊢
  dsimp only at ep ea hp ⊢
  obtain ⟨q, hq⟩ : ∃ q, q = (parseI vt).1 := ⟨_, rfl⟩
  rw [← hq] at hv h20 ⊢
  refine ⟨?_, h20, hp⟩
  obtain ⟨P, hP⟩ : ∃ P, P = parsI (b.length + 1) ⟨rt, false⟩ := ⟨_, rfl⟩
  rw [← hP] at ep ea ⊢
  rw [et, ep, ea, ec, e1, hv]
  simp [cmB, parB]
/-- parents that were written are read -/
theorem pars_yes (bad : Bool) (s : List UInt8) (hs : (nextI ⟨s, bad⟩ wParent).2.1 = false) : ∀ (ps : List (List UInt8)) (n : Nat), ps.length < n → (∀ p ∈ ps, p.length = 20) → parsI n ⟨parB ps ++ s, bad⟩ = (ps, ⟨s, bad⟩)
  | [], n, h, _ => by
    obtain ⟨m, rfl⟩ : ∃ m, n = m + 1 := ⟨n - 1, by simp at h; omega⟩
    show parsI (m + 1) ⟨s, bad⟩ = _
    unfold parsI
    rw [if_neg (by rw [hs]; decide)]
  | p :: ps, n, h, h20 => by
    obtain ⟨m, rfl⟩ : ∃ m, n = m + 1 := ⟨n - 1, by simp at h; omega⟩
    have e : parB (p :: ps) ++ s = wParent ++ hexs p ++ 10 :: (parB ps ++ s) := by simp [parB]
    have hn : (10 : UInt8) ∉ wParent ++ hexs p := fun e => by
      rcases List.mem_append.1 e with e | e
      · exact absurd e (by decide)
      · exact (hexs_no p).1 e
    have h1 := next_yes bad _ hn e
    have hp : parseI (hexs p) = (p, 0) := parseI_hexs p (h20 p (by simp))
    unfold parsI
    rw [h1, if_pos rfl]
    have hid : idI ⟨parB ps ++ s, bad⟩ (hexs p) = (p, ⟨parB ps ++ s, bad⟩) := by unfold idI; rw [hp]; simp
    rw [hid, pars_yes bad s hs ps m (by simp at h; omega) (fun q hq => h20 q (List.mem_cons_of_mem _ hq))]
theorem text_no {s : List UInt8} {n : Nat} (h : textI s n = true) : (10 : UInt8) ∉ s ∧ s.length ≤ n := by
  unfold textI at h
  simp only [Bool.and_eq_true, Bool.not_eq_true', decide_eq_true_eq] at h
  exact ⟨fun e => by have := h.2; simp [e] at this, h.1.1.2⟩
theorem no10 {f v : List UInt8} (hf : (10 : UInt8) ∉ f) (hv : (10 : UInt8) ∉ v) : (10 : UInt8) ∉ f ++ v := fun e => (List.mem_append.1 e).elim hf hv
theorem must_yes {s f v : List UInt8} (bad : Bool) (r : List UInt8) (hf : (10 : UInt8) ∉ f) (hv : (10 : UInt8) ∉ v) (e : s = f ++ v ++ 10 :: r) : mustI ⟨s, bad⟩ f = (v, ⟨r, bad⟩) := by
  unfold mustI
  rw [next_yes bad r (no10 hf hv) e]
  simp
theorem parB_len : ∀ ps : List (List UInt8), ps.length ≤ (parB ps).length
  | [] => by simp
  | p :: ps => by
    have := parB_len ps
    simp only [parB, List.flatMap_cons, List.length_append, List.length_cons] at *
    omega
/-- what was written is read -/
theorem raw_cmB (c : Cm) (h20 : c.tree.length = 20) (hp : ∀ p ∈ c.parents, p.length = 20) (ha : (10 : UInt8) ∉ c.author) (hc : (10 : UInt8) ∉ c.committer) : decCraw (cmB c) = (c, ⟨c.message, false⟩) := by
  obtain ⟨tree, parents, author, committer, message⟩ := c
  dsimp only at h20 hp ha hc
  have e1 : cmB ⟨tree, parents, author, committer, message⟩ = wTree ++ hexs tree ++ 10 :: (parB parents ++ (wAuthor ++ author ++ 10 :: (wCommitter ++ committer ++ 10 :: 10 :: message))) := by simp [cmB, parB]
  have m1 := must_yes false _ (by decide) (hexs_no tree).1 e1
  have hs : (nextI ⟨wAuthor ++ author ++ 10 :: (wCommitter ++ committer ++ 10 :: 10 :: message), false⟩ wParent).2.1 = false := by
    unfold nextI
    rw [show Lib.cut (wAuthor ++ author ++ 10 :: (wCommitter ++ committer ++ 10 :: 10 :: message)) [10] = _ from cut_yes _ (no10 (by decide) ha)]
    rw [if_neg (fun h => absurd h.2 (by simp [Lib.hasPrefix, wAuthor, wParent]))]
  have m2 := pars_yes false _ hs parents ((cmB ⟨tree, parents, author, committer, message⟩).length + 1) (by
    have := parB_len parents
    rw [e1]; simp only [List.length_append, List.length_cons]; omega) hp
  have m3 := must_yes (f := wAuthor) (v := author) false (wCommitter ++ committer ++ 10 :: 10 :: message) (by decide) ha rfl
  have m4 := must_yes (f := wCommitter) (v := committer) false (10 :: message) (by decide) hc rfl
  have mi : idI ⟨parB parents ++ (wAuthor ++ author ++ 10 :: (wCommitter ++ committer ++ 10 :: 10 :: message)), false⟩ (hexs tree) = (tree, ⟨parB parents ++ (wAuthor ++ author ++ 10 :: (wCommitter ++ committer ++ 10 :: 10 :: message)), false⟩) := by
    unfold idI; rw [parseI_hexs tree h20]; simp
  unfold decCraw
  dsimp only
  rw [m1]
  dsimp only
  rw [mi]
  dsimp only
  rw [m2]
  dsimp only
  rw [m3]
  dsimp only
  rw [m4]
  dsimp only
  rw [empty_yes]
theorem wrong_no {c : Cm} (h : wrongC c = false) : c.parents.length ≤ 512 ∧ c.parents.Nodup ∧ textI c.author 200 = true ∧ textI c.committer 200 = true := by
  unfold wrongC at h
  simp only [Bool.or_eq_false_iff, decide_eq_false_iff_not, Bool.not_eq_false'] at h
  exact ⟨by omega, by simpa using h.1.1.2, h.1.2, h.2⟩
theorem decC_encC (c : Cm) (h20 : c.tree.length = 20) (hp : ∀ p ∈ c.parents, p.length = 20) (h : (encC c).2 = 0) : (encC c).1 = cmB c ∧ decC (cmB c) = (c, 0) := by
  unfold encC at h ⊢
  cases hw : wrongC c with
  | true => rw [hw] at h; exact absurd h (by simp)
  | false =>
    rw [hw] at h
    simp only [Bool.false_eq_true, if_false] at h ⊢
    by_cases hl : 16384 < (cmB c).length
    · rw [if_pos hl] at h; exact absurd h (by simp)
    · rw [if_neg hl]
      refine ⟨rfl, ?_⟩
      obtain ⟨_, _, ta, tc⟩ := wrong_no hw
      unfold decC
      rw [if_neg hl, raw_cmB c h20 hp (text_no ta).1 (text_no tc).1, hw]
      simp
/-- the reference's way: parents -/
def parR : Nat → List UInt8 → Option (List (List UInt8) × List UInt8)
  | 0, s => some ([], s)
  | n + 1, s => if (nextI ⟨s, false⟩ wParent).2.1 = true then
      if (parseI (nextI ⟨s, false⟩ wParent).1).2 = 0 then (parR n (nextI ⟨s, false⟩ wParent).2.2.s).map (fun q => ((parseI (nextI ⟨s, false⟩ wParent).1).1 :: q.1, q.2)) else none
    else some ([], s)
/-- the reference's way: the rest of a commit -/
def endR (b t : List UInt8) (ps : List (List UInt8)) (s : List UInt8) : Cm × Nat :=
  if (nextI ⟨s, false⟩ wAuthor).2.1 = false then (noCm, 2) else
  if (nextI ⟨(nextI ⟨s, false⟩ wAuthor).2.2.s, false⟩ wCommitter).2.1 = false then (noCm, 2) else
  match (nextI ⟨(nextI ⟨s, false⟩ wAuthor).2.2.s, false⟩ wCommitter).2.2.s with
  | [] => (noCm, 2)
  | x :: r => if x = 10 then
      (if encC ⟨t, ps, (nextI ⟨s, false⟩ wAuthor).1, (nextI ⟨(nextI ⟨s, false⟩ wAuthor).2.2.s, false⟩ wCommitter).1, r⟩ = (b, 0) then (⟨t, ps, (nextI ⟨s, false⟩ wAuthor).1, (nextI ⟨(nextI ⟨s, false⟩ wAuthor).2.2.s, false⟩ wCommitter).1, r⟩, 0) else (noCm, 2))
      else (noCm, 2)
def decCR (b : List UInt8) : Cm × Nat :=
  if 16384 < b.length then (noCm, 5) else
  if (nextI ⟨b, false⟩ wTree).2.1 = false then (noCm, 2) else
  if (parseI (nextI ⟨b, false⟩ wTree).1).2 ≠ 0 then (noCm, 2) else
  match parR (b.length + 1) (nextI ⟨b, false⟩ wTree).2.2.s with
  | none => (noCm, 2)
  | some (ps, s) => endR b (parseI (nextI ⟨b, false⟩ wTree).1).1 ps s
theorem parR_some : ∀ (n : Nat) (s : List UInt8) (ps : List (List UInt8)) (r : List UInt8), parR n s = some (ps, r) → parsI n ⟨s, false⟩ = (ps, ⟨r, false⟩)
  | 0, s, ps, r, h => by
    injection h with h
    injection h with h1 h2
    subst h1; subst h2; rfl
  | n + 1, s, ps, r, h => by
    unfold parR at h
    unfold parsI
    rcases next_two ⟨s, false⟩ wParent with e | ⟨v, q, e1, e2, e⟩
    · rw [e] at h ⊢
      simp only [Bool.false_eq_true, if_false] at h ⊢
      injection h with h
      injection h with h1 h2
      subst h1; subst h2; rfl
    · rw [e] at h ⊢
      simp only [if_true] at h ⊢
      by_cases hp : (parseI v).2 = 0
      · rw [if_pos hp] at h
        obtain ⟨⟨ps', r'⟩, h1, h2⟩ := Option.map_eq_some_iff.1 h
        injection h2 with h2 h3
        have ih := parR_some n q ps' r' h1
        have hid : (idI ⟨q, false⟩ v) = ((parseI v).1, ⟨q, false⟩) := by unfold idI; rw [hp]; simp
        rw [hid]
        dsimp only
        rw [ih]
        dsimp only at h2 h3 ⊢
        rw [h2, h3]
      · rw [if_neg hp] at h; cases h
theorem pars_bad : ∀ (n : Nat) (l : Ln), l.bad = true → (parsI n l).2.bad = true
  | 0, l, h => h
  | n + 1, l, h => by
    cases hb : (parsI (n + 1) l).2.bad with
    | true => rfl
    | false => have := (pars_ok _ _ hb).1; rw [h] at this; cases this
theorem parR_none : ∀ (n : Nat) (s : List UInt8), parR n s = none → (parsI n ⟨s, false⟩).2.bad = true
  | 0, s, h => by cases h
  | n + 1, s, h => by
    unfold parR at h
    unfold parsI
    rcases next_two ⟨s, false⟩ wParent with e | ⟨v, q, e1, e2, e⟩
    · rw [e] at h
      simp at h
    · rw [e] at h ⊢
      simp only [if_true] at h ⊢
      by_cases hp : (parseI v).2 = 0
      · rw [if_pos hp] at h
        have h1 : parR n q = none := by simpa using h
        have hid : (idI ⟨q, false⟩ v) = ((parseI v).1, ⟨q, false⟩) := by unfold idI; rw [hp]; simp
        rw [hid]
        exact parR_none n q h1
      · exact pars_bad n _ (by unfold idI; simp [hp])
theorem raw_tree {b : List UInt8} {v r : List UInt8} (e : nextI ⟨b, false⟩ wTree = (v, true, ⟨r, false⟩)) (hp : (parseI v).2 = 0) :
    decCraw b = (⟨(parseI v).1, (parsI (b.length + 1) ⟨r, false⟩).1, (mustI (parsI (b.length + 1) ⟨r, false⟩).2 wAuthor).1, (mustI (mustI (parsI (b.length + 1) ⟨r, false⟩).2 wAuthor).2 wCommitter).1, (emptyI (mustI (mustI (parsI (b.length + 1) ⟨r, false⟩).2 wAuthor).2 wCommitter).2).s⟩,
      emptyI (mustI (mustI (parsI (b.length + 1) ⟨r, false⟩).2 wAuthor).2 wCommitter).2) := by
  have hm : mustI ⟨b, false⟩ wTree = (v, ⟨r, false⟩) := by unfold mustI; rw [e]; simp
  have hid : (idI ⟨r, false⟩ v) = ((parseI v).1, ⟨r, false⟩) := by unfold idI; rw [hp]; simp
  unfold decCraw
  dsimp only
  rw [hm]
  dsimp only
  rw [hid]
theorem raw_bad1 {b : List UInt8} (h : (nextI ⟨b, false⟩ wTree).2.1 = false ∨ (parseI (nextI ⟨b, false⟩ wTree).1).2 ≠ 0) : (decCraw b).2.bad = true := by
  cases hb : (decCraw b).2.bad with
  | true => rfl
  | false =>
    exfalso
    unfold decCraw at hb
    dsimp only at hb
    obtain ⟨h1, _⟩ := empty_bad hb
    obtain ⟨h2, _⟩ := must_bad h1
    obtain ⟨h3, _⟩ := must_bad h2
    obtain ⟨h4, _⟩ := pars_ok _ _ h3
    obtain ⟨h5, ht⟩ := id_bad.1 h4
    rcases h with h | h
    · have e := next_not h
      unfold mustI at h5
      rw [e] at h5
      exact absurd h5 (by simp)
    · exact h ht
theorem must_bad_of {l : Ln} {f : List UInt8} (h : l.bad = true ∨ (nextI ⟨l.s, false⟩ f).2.1 = false) : (mustI l f).2.bad = true := by
  cases hb : (mustI l f).2.bad with
  | true => rfl
  | false =>
    exfalso
    obtain ⟨h1, v, r, e1, e2, e⟩ := must_bad hb
    rcases h with h | h
    · rw [h1] at h; cases h
    · rw [next_yes false r e2 e1] at h; cases h
theorem empty_bad_of {l : Ln} (h : l.bad = true ∨ l.s.head? ≠ some 10) : (emptyI l).bad = true := by
  cases hb : (emptyI l).bad with
  | true => rfl
  | false =>
    exfalso
    obtain ⟨h1, r, e1, e⟩ := empty_bad hb
    rcases h with h | h
    · rw [h1] at h; cases h
    · rw [e1] at h; exact h rfl
theorem decC_bad {b : List UInt8} (hl : ¬ 16384 < b.length) (h : (decCraw b).2.bad = true) : decC b = (noCm, 2) := by
  unfold decC
  rw [if_neg hl, h]
  simp
theorem must_of_next {s f v r : List UInt8} (e : nextI ⟨s, false⟩ f = (v, true, ⟨r, false⟩)) : mustI ⟨s, false⟩ f = (v, ⟨r, false⟩) := by
  unfold mustI; rw [e]; simp
/-- the reference's way comes to the same -/
theorem decCR_eq (b : List UInt8) : decCR b = decC b := by
  unfold decCR
  by_cases hl : 16384 < b.length
  · rw [if_pos hl]; unfold decC; rw [if_pos hl]
  rw [if_neg hl]
  rcases next_two ⟨b, false⟩ wTree with e | ⟨v, r, e1, e2, e⟩
  · rw [if_pos (by rw [e]), decC_bad hl (raw_bad1 (.inl (by rw [e])))]
  rw [if_neg (by rw [e]; simp)]
  by_cases hp : (parseI (nextI ⟨b, false⟩ wTree).1).2 = 0
  case neg => rw [if_pos hp, decC_bad hl (raw_bad1 (.inr hp))]
  rw [if_neg (by simpa using hp), e]
  rw [e] at hp
  dsimp only at hp ⊢
  have hraw := raw_tree e hp
  cases hq : parR (b.length + 1) r with
  | none =>
    have := parR_none _ _ hq
    refine (decC_bad hl ?_).symm
    rw [hraw]
    exact empty_bad_of (.inl (must_bad_of (.inl (must_bad_of (.inl this)))))
  | some w =>
    obtain ⟨ps, s⟩ := w
    rw [parR_some _ _ _ _ hq] at hraw
    dsimp only at hraw ⊢
    unfold endR
    rcases next_two ⟨s, false⟩ wAuthor with ea | ⟨va, ra, ea1, ea2, ea⟩
    · rw [if_pos (by rw [ea])]
      refine (decC_bad hl ?_).symm
      rw [hraw]
      exact empty_bad_of (.inl (must_bad_of (.inl (must_bad_of (.inr (by rw [ea]))))))
    rw [if_neg (by rw [ea]; simp), ea]
    rw [must_of_next ea] at hraw
    dsimp only at hraw ⊢
    rcases next_two ⟨ra, false⟩ wCommitter with ec | ⟨vc, rc, ec1, ec2, ec⟩
    · rw [if_pos (by rw [ec])]
      refine (decC_bad hl ?_).symm
      rw [hraw]
      exact empty_bad_of (.inl (must_bad_of (.inr (by rw [ec]))))
    rw [if_neg (by rw [ec]; simp), ec]
    rw [must_of_next ec] at hraw
    dsimp only at hraw ⊢
    cases rc with
    | nil =>
      refine (decC_bad hl ?_).symm
      rw [hraw]
      exact empty_bad_of (.inr (by simp))
    | cons x q =>
      dsimp only
      by_cases hx : x = 10
      · subst hx
        rw [if_pos rfl]
        rw [empty_yes] at hraw
        dsimp only at hraw
        have hok := raw_ok (b := b) (by rw [hraw])
        rw [hraw] at hok
        dsimp only at hok
        unfold decC encC
        rw [if_neg hl, hraw, hok.1]
        dsimp only
        cases hw : wrongC ⟨(parseI v).1, ps, va, vc, q⟩ with
        | true => simp
        | false => simp [hl]
      · rw [if_neg hx]
        refine (decC_bad hl ?_).symm
        rw [hraw]
        exact empty_bad_of (.inr (by simpa using hx))
end
section
set_option linter.unusedVariables false
def wObject : List UInt8 := [111, 98, 106, 101, 99, 116, 32]
def wType : List UInt8 := [116, 121, 112, 101, 32]
def wTag : List UInt8 := [116, 97, 103, 32]
def wTagger : List UInt8 := [116, 97, 103, 103, 101, 114, 32]
def wrongT (t : Tg) : Bool := (wordI t.kind == []) || !(textI t.name 100) || !(textI t.tagger 200)
def tgB (t : Tg) : List UInt8 := wObject ++ hexs t.object ++ [10] ++ wType ++ wordI t.kind ++ [10] ++ wTag ++ t.name ++ [10] ++ wTagger ++ t.tagger ++ [10, 10] ++ t.message
def encT (t : Tg) : List UInt8 × Nat := if wrongT t = true then ([], 1) else if 16384 < (tgB t).length then ([], 5) else (tgB t, 0)
def noTg : Tg := ⟨List.replicate 20 0, 0, [], [], []⟩
def decTraw (b : List UInt8) : Tg × Ln :=
  let o := mustI ⟨b, false⟩ wObject
  let i := idI o.2 o.1
  let k := mustI i.2 wType
  let n := mustI k.2 wTag
  let g := mustI n.2 wTagger
  let e := emptyI g.2
  (⟨i.1, ((kindI k.1).1 : Int), n.1, g.1, e.s⟩, e)
def decT (b : List UInt8) : Tg × Nat := if 16384 < b.length then (noTg, 5) else if ((decTraw b).2.bad || wrongT (decTraw b).1) = true then (noTg, 2) else ((decTraw b).1, 0)
theorem kind_two (v : List UInt8) : kindI v = (0, false) ∨ ((kindI v).2 = true ∧ v = wordI (kindI v).1) := by
  cases h : kindI v with
  | mk k ok =>
    cases ok with
    | true => exact .inr ⟨rfl, (kind_some h).1⟩
    | false =>
      left
      unfold kindI at h
      repeat' split at h
      all_goals first | (injection h with h1 h2; cases h2; done) | exact h.symm
theorem raw_okT {b : List UInt8} (h : (decTraw b).2.bad = false) (hw : wrongT (decTraw b).1 = false) : tgB (decTraw b).1 = b ∧ (decTraw b).1.object.length = 20 := by
  unfold decTraw at h hw ⊢
  dsimp only at h hw ⊢
  obtain ⟨h1, r, e1, e⟩ := empty_bad h
  rw [e] at hw ⊢
  obtain ⟨h2, vg, rg, eg, ng, hg⟩ := must_bad h1
  rw [hg] at e1 hw ⊢
  obtain ⟨h3, vn, rn, en, nn, hn⟩ := must_bad h2
  rw [hn] at eg hw ⊢
  obtain ⟨h4, vk, rk, ek, nk, hk⟩ := must_bad h3
  rw [hk] at en hw ⊢
  obtain ⟨h5, ht⟩ := id_bad.1 h4
  obtain ⟨_, vt, rt, et, nt, hm⟩ := must_bad h5
  rw [hm] at ek ht hw ⊢
  dsimp only at e1 eg en ek et ht hw ⊢
  refine ⟨?_, parseI_len vt⟩
  have hv := parse_ok ht
  have hkk : vk = wordI ((kindI vk).1 : Nat) := by
    rcases kind_two vk with e | ⟨_, e⟩
    · exfalso
      rw [e] at hw
      unfold wrongT at hw
      exact absurd hw (by simp [wordI])
    · exact e
  have ek' : rt = wType ++ vk ++ 10 :: rk := ek
  rw [et, ek', en, eg, e1]
  conv => rhs; rw [hv, hkk]
  simp [tgB, idI]
theorem raw_tgB (t : Tg) (h20 : t.object.length = 20) (k : Nat) (hk : t.kind = (k : Int)) (hw : wordI t.kind ≠ []) (hn : (10 : UInt8) ∉ t.name) (hg : (10 : UInt8) ∉ t.tagger) : decTraw (tgB t) = (t, ⟨t.message, false⟩) := by
  obtain ⟨object, kind, name, tagger, message⟩ := t
  dsimp only at h20 hk hw hn hg
  subst hk
  have e1 : tgB ⟨object, (k : Int), name, tagger, message⟩ = wObject ++ hexs object ++ 10 :: (wType ++ wordI k ++ 10 :: (wTag ++ name ++ 10 :: (wTagger ++ tagger ++ 10 :: 10 :: message))) := by simp [tgB]
  have hw10 : (10 : UInt8) ∉ wordI k := by
    unfold wordI
    repeat' split
    all_goals decide
  have m1 := must_yes false _ (by decide) (hexs_no object).1 e1
  have m2 := must_yes (f := wType) (v := wordI k) false (wTag ++ name ++ 10 :: (wTagger ++ tagger ++ 10 :: 10 :: message)) (by decide) hw10 rfl
  have m3 := must_yes (f := wTag) (v := name) false (wTagger ++ tagger ++ 10 :: 10 :: message) (by decide) hn rfl
  have m4 := must_yes (f := wTagger) (v := tagger) false (10 :: message) (by decide) hg rfl
  have mi : ∀ l : List UInt8, idI ⟨l, false⟩ (hexs object) = (object, ⟨l, false⟩) := fun l => by
    unfold idI; rw [parseI_hexs object h20]; simp
  unfold decTraw
  dsimp only
  rw [m1]
  dsimp only
  rw [mi]
  dsimp only
  rw [m2]
  dsimp only
  rw [m3]
  dsimp only
  rw [m4]
  dsimp only
  rw [empty_yes, kind_word k hw]
theorem wrongT_no {t : Tg} (h : wrongT t = false) : wordI t.kind ≠ [] ∧ textI t.name 100 = true ∧ textI t.tagger 200 = true := by
  unfold wrongT at h
  simp only [Bool.or_eq_false_iff, Bool.not_eq_false', beq_eq_false_iff_ne] at h
  exact ⟨h.1.1, h.1.2, h.2⟩
theorem word_nat {k : Int} (h : wordI k ≠ []) : ∃ n : Nat, k = (n : Int) := by
  unfold wordI at h
  split at h
  · exact ⟨1, by omega⟩
  · split at h
    · exact ⟨2, by omega⟩
    · split at h
      · exact ⟨3, by omega⟩
      · split at h
        · exact ⟨4, by omega⟩
        · exact absurd rfl h
theorem decT_encT (t : Tg) (h20 : t.object.length = 20) (h : (encT t).2 = 0) : (encT t).1 = tgB t ∧ decT (tgB t) = (t, 0) := by
  unfold encT at h ⊢
  cases hw : wrongT t with
  | true => rw [hw] at h; exact absurd h (by simp)
  | false =>
    rw [hw] at h
    simp only [Bool.false_eq_true, if_false] at h ⊢
    by_cases hl : 16384 < (tgB t).length
    · rw [if_pos hl] at h; exact absurd h (by simp)
    · rw [if_neg hl]
      refine ⟨rfl, ?_⟩
      obtain ⟨hk, ta, tc⟩ := wrongT_no hw
      obtain ⟨k, ek⟩ := word_nat hk
      unfold decT
      rw [if_neg hl, raw_tgB t h20 k ek hk (text_no ta).1 (text_no tc).1, hw]
      simp
/-- the reference's way: four lines one behind the other, then an empty one -/
def decTR (b : List UInt8) : Tg × Nat :=
  if 16384 < b.length then (noTg, 5) else
  let o := nextI ⟨b, false⟩ wObject
  let k := nextI ⟨o.2.2.s, false⟩ wType
  let n := nextI ⟨k.2.2.s, false⟩ wTag
  let g := nextI ⟨n.2.2.s, false⟩ wTagger
  if o.2.1 = false ∨ k.2.1 = false ∨ n.2.1 = false ∨ g.2.1 = false ∨ g.2.2.s.head? ≠ some 10 then (noTg, 2) else
  if (parseI o.1).2 ≠ 0 ∨ (kindI k.1).2 = false then (noTg, 2) else
  if encT ⟨(parseI o.1).1, ((kindI k.1).1 : Int), n.1, g.1, g.2.2.s.tail⟩ = (b, 0) then (⟨(parseI o.1).1, ((kindI k.1).1 : Int), n.1, g.1, g.2.2.s.tail⟩, 0) else (noTg, 2)
theorem decT_bad {b : List UInt8} (hl : ¬ 16384 < b.length) (h : (decTraw b).2.bad = true) : decT b = (noTg, 2) := by
  unfold decT
  rw [if_neg hl, h]
  simp
theorem must_eq (l : Ln) (f : List UInt8) : mustI l f = ((nextI ⟨l.s, false⟩ f).1, ⟨(nextI ⟨l.s, false⟩ f).2.2.s, l.bad || !(nextI ⟨l.s, false⟩ f).2.1⟩) := by
  obtain ⟨s, bad⟩ := l
  unfold mustI
  rw [next_bad s bad f]
theorem decTR_eq (b : List UInt8) : decTR b = decT b := by
  unfold decTR
  by_cases hl : 16384 < b.length
  · rw [if_pos hl]; unfold decT; rw [if_pos hl]
  rw [if_neg hl]
  dsimp only
  obtain ⟨R, hR⟩ : ∃ R, R = decTraw b := ⟨_, rfl⟩
  have hraw := hR
  unfold decTraw at hraw
  dsimp only at hraw
  obtain ⟨o, ho⟩ : ∃ o, o = nextI ⟨b, false⟩ wObject := ⟨_, rfl⟩
  obtain ⟨k, hk⟩ : ∃ k, k = nextI ⟨o.2.2.s, false⟩ wType := ⟨_, rfl⟩
  obtain ⟨n, hn⟩ : ∃ n, n = nextI ⟨k.2.2.s, false⟩ wTag := ⟨_, rfl⟩
  obtain ⟨g, hg⟩ : ∃ g, g = nextI ⟨n.2.2.s, false⟩ wTagger := ⟨_, rfl⟩
  have m1 : mustI ⟨b, false⟩ wObject = (o.1, ⟨o.2.2.s, !o.2.1⟩) := by rw [must_eq, ho]; simp
  have mi : idI ⟨o.2.2.s, !o.2.1⟩ o.1 = ((parseI o.1).1, ⟨o.2.2.s, !o.2.1 || !(decide ((parseI o.1).2 = 0))⟩) := by unfold idI; rfl
  have m2 : ∀ bad, mustI ⟨o.2.2.s, bad⟩ wType = (k.1, ⟨k.2.2.s, bad || !k.2.1⟩) := fun bad => by rw [must_eq, hk]
  have m3 : ∀ bad, mustI ⟨k.2.2.s, bad⟩ wTag = (n.1, ⟨n.2.2.s, bad || !n.2.1⟩) := fun bad => by rw [must_eq, hn]
  have m4 : ∀ bad, mustI ⟨n.2.2.s, bad⟩ wTagger = (g.1, ⟨g.2.2.s, bad || !g.2.1⟩) := fun bad => by rw [must_eq, hg]
  rw [m1] at hraw
  dsimp only at hraw
  rw [mi] at hraw
  dsimp only at hraw
  rw [m2] at hraw
  dsimp only at hraw
  rw [m3] at hraw
  dsimp only at hraw
  rw [m4] at hraw
  dsimp only at hraw
  rw [← ho, ← hk, ← hn, ← hg]
  rw [hR] at hraw
  clear m1 mi m2 m3 m4 ho hk hn hg
  by_cases hc : o.2.1 = false ∨ k.2.1 = false ∨ n.2.1 = false ∨ g.2.1 = false ∨ g.2.2.s.head? ≠ some 10
  · rw [if_pos hc]
    refine (decT_bad hl ?_).symm
    rw [hraw]
    refine empty_bad_of ?_
    rcases hc with h | h | h | h | h
    · left; simp [h]
    · left; simp [h]
    · left; simp [h]
    · left; simp [h]
    · right; exact h
  rw [if_neg hc]
  have a1 : o.2.1 = true := by cases h : o.2.1 <;> simp_all
  have a2 : k.2.1 = true := by cases h : k.2.1 <;> simp_all
  have a3 : n.2.1 = true := by cases h : n.2.1 <;> simp_all
  have a4 : g.2.1 = true := by cases h : g.2.1 <;> simp_all
  have a5 : g.2.2.s.head? = some 10 := by
    rcases Classical.em (g.2.2.s.head? = some 10) with h | h
    · exact h
    · exact absurd (.inr (.inr (.inr (.inr h)))) hc
  rw [a1, a2, a3, a4] at hraw
  clear hc a1 a2 a3 a4
  by_cases hp : (parseI o.1).2 = 0
  case neg =>
    rw [if_pos (.inl hp)]
    refine (decT_bad hl ?_).symm
    rw [hraw]
    exact empty_bad_of (.inl (by simp [hp]))
  obtain ⟨tl, htl⟩ : ∃ tl, tl = g.2.2.s.tail := ⟨_, rfl⟩
  rw [← htl]
  obtain ⟨x, r, hr⟩ : ∃ x r, g.2.2.s = x :: r := by
    cases h : g.2.2.s with
    | nil => rw [h] at a5; cases a5
    | cons x r => exact ⟨x, r, rfl⟩
  obtain rfl : tl = r := by rw [htl, hr]; rfl
  rw [hr] at a5 hraw
  obtain rfl : x = 10 := by simpa using a5
  rw [hp] at hraw
  simp only [Bool.not_true, decide_true, Bool.or_self] at hraw
  rw [empty_yes] at hraw
  dsimp only at hraw
  rcases kind_two k.1 with e | ⟨e, _⟩
  · rw [if_pos (.inr (by rw [e]))]
    have hw : wrongT (decTraw b).1 = true := by
      rw [hraw]
      unfold wrongT
      dsimp only
      rw [e]
      simp [wordI]
    unfold decT
    rw [if_neg hl, hw]
    simp
  rw [if_neg (by rw [e]; simp [hp])]
  obtain ⟨t, ht⟩ : ∃ t, t = (⟨(parseI o.1).1, ((kindI k.1).1 : Int), n.1, g.1, tl⟩ : Tg) := ⟨_, rfl⟩
  rw [← ht] at hraw ⊢
  have hb : (decTraw b).2.bad = false := by rw [hraw]
  unfold decT
  rw [if_neg hl, hb]
  cases hw : wrongT (decTraw b).1 with
  | true =>
    have hw' : wrongT t = true := by rw [hraw] at hw; exact hw
    unfold encT
    rw [hw']
    simp
  | false =>
    have hok := (raw_okT hb hw).1
    rw [hraw] at hok hw ⊢
    dsimp only at hok hw ⊢
    unfold encT
    rw [hw, hok]
    simp [hl]
end
section
open Go.RowKit
set_option maxRecDepth 100000
set_option maxHeartbeats 1000000
set_option linter.unusedVariables false
theorem kind_first {k : Nat} (h1 : 1 ≤ k) (h4 : k ≤ 4) {w : List UInt8} (h : wordI k = w) (hno : ∀ j : Nat, 1 ≤ j → j < k → wordI j ≠ w) : kindI w = (k, true) := by
  have : wordI k ≠ [] := by
    rcases (by omega : k = 1 ∨ k = 2 ∨ k = 3 ∨ k = 4) with rfl | rfl | rfl | rfl <;> decide
  rw [← h]; exact kind_word k this
theorem kind_no {w : List UInt8} (h : ∀ j : Nat, 1 ≤ j → j < 5 → wordI j ≠ w) : kindI w = (0, false) := by
  unfold kindI
  rw [if_neg (fun e => h 1 (by omega) (by omega) e.symm), if_neg (fun e => h 2 (by omega) (by omega) e.symm), if_neg (fun e => h 3 (by omega) (by omega) e.symm), if_neg (fun e => h 4 (by omega) (by omega) e.symm)]
theorem oword_any (k : Int) (w : World) : Calls Tryz.prog 16 #[.int .i64 k] w fun e w' => e = .returned (.string (bstr (wordI k))) ∧ w = w' := by
  by_cases h1 : k = 1
  · subst h1
    go_enter Tryz.func16, Tryz.ntmps16
    go_wp2
    go_ret
    exact ⟨rfl, rfl⟩
  · by_cases h2 : k = 2
    · subst h2
      go_enter Tryz.func16, Tryz.ntmps16
      go_wp2
      go_ret
      exact ⟨rfl, rfl⟩
    · by_cases h3 : k = 3
      · subst h3
        go_enter Tryz.func16, Tryz.ntmps16
        go_wp2
        go_ret
        exact ⟨rfl, rfl⟩
      · by_cases h4 : k = 4
        · subst h4
          go_enter Tryz.func16, Tryz.ntmps16
          go_wp2
          go_ret
          exact ⟨rfl, rfl⟩
        · have e : wordI k = [] := by unfold wordI; rw [if_neg h1, if_neg h2, if_neg h3, if_neg h4]
          rw [e]
          have t1 : (k == 1) = false := by simpa using h1
          have t2 : (k == 2) = false := by simpa using h2
          have t3 : (k == 3) = false := by simpa using h3
          have t4 : (k == 4) = false := by simpa using h4
          clear e
          go_enter Tryz.func16, Tryz.ntmps16
          go_wp2
          go_ret
          exact ⟨rfl, rfl⟩
theorem okind_any (s : List UInt8) (w : World) : Calls Tryz.prog 20 #[.string (bstr s)] w fun e w' => e = .returned (.tuple #[.int .i64 ((kindI s).1 : Nat), .bool (kindI s).2]) ∧ w = w' := by
  go_enter Tryz.func20, Tryz.ntmps20
  go_wp2
  go_loopw [4] (fun t4 wr => ∃ k : Nat, t4 = .int .i64 (k : Int) ∧ 1 ≤ k ∧ k ≤ 5 ∧ Hid (∀ j : Nat, 1 ≤ j → j < k → wordI j ≠ s) ∧ wr = w) (fun t4 _ => (5 - intOf t4).toNat)
  case atStart => exact ⟨1, rfl, by omega, by omega, Lib.hid (fun j h1 h2 => by omega), rfl⟩
  case round =>
    obtain ⟨k, rfl, hk1, hk5, HN, rfl⟩ := hrel
    by_cases h4 : k ≤ 4
    · have c1 := oword_any (k : Int) wr
      obtain ⟨q, hq⟩ : ∃ q, q = wordI (k : Int) := ⟨_, rfl⟩
      rw [← hq] at c1
      by_cases he : q = s
      · have HK := Lib.hid (kind_first hk1 h4 (hq.symm.trans he) HN.out)
        have t1 : (q == s) = true := by simpa using he
        clear he hq HN
        go_wp2_with (go_at_call 16; (with_reducible refine c1.mono ?_); rintro e w1 ⟨rfl, rfl⟩)
        go_ret2
        exact ⟨by rw [HK.out]; rfl, rfl⟩
      · have t1 : (q == s) = false := by simpa using he
        have HN2 : Hid (∀ j : Nat, 1 ≤ j → j < k + 1 → wordI j ≠ s) := Lib.hid (fun j h1 h2 => by
          by_cases e : j = k
          · subst e; rw [← hq]; exact he
          · exact HN.out j h1 (by omega))
        clear he hq HN
        go_wp2_with (go_at_call 16; (with_reducible refine c1.mono ?_); rintro e w1 ⟨rfl, rfl⟩)
        go_roundw
        case rel => exact ⟨k + 1, by simp, by omega, by omega, HN2, trivial⟩
        case measure => simp only [intOf]; omega
    · have HK := Lib.hid (kind_no (fun j h1 h2 => HN.out j h1 (by omega)))
      clear HN
      go_wp2
      go_ret2
      exact ⟨by rw [HK.out]; rfl, rfl⟩
theorem owordR_any (k : Int) (w : World) : Calls Tryz.prog 17 #[.int .i64 k] w fun e w' => e = .returned (.string (bstr (wordI k))) ∧ w = w' := by
  by_cases h1 : k = 1
  · subst h1
    go_enter Tryz.func17, Tryz.ntmps17
    go_wp2
    go_ret
    exact ⟨rfl, rfl⟩
  · by_cases h2 : k = 2
    · subst h2
      go_enter Tryz.func17, Tryz.ntmps17
      go_wp2
      go_ret
      exact ⟨rfl, rfl⟩
    · by_cases h3 : k = 3
      · subst h3
        go_enter Tryz.func17, Tryz.ntmps17
        go_wp2
        go_ret
        exact ⟨rfl, rfl⟩
      · by_cases h4 : k = 4
        · subst h4
          go_enter Tryz.func17, Tryz.ntmps17
          go_wp2
          go_ret
          exact ⟨rfl, rfl⟩
        · have e : wordI k = [] := by unfold wordI; rw [if_neg h1, if_neg h2, if_neg h3, if_neg h4]
          rw [e]
          have t1 : (k == 1) = false := by simpa using h1
          have t2 : (k == 2) = false := by simpa using h2
          have t3 : (k == 3) = false := by simpa using h3
          have t4 : (k == 4) = false := by simpa using h4
          clear e
          go_enter Tryz.func17, Tryz.ntmps17
          go_wp2
          go_ret
          exact ⟨rfl, rfl⟩
theorem okindR_any (s : List UInt8) (w : World) : Calls Tryz.prog 21 #[.string (bstr s)] w fun e w' => e = .returned (.tuple #[.int .i64 ((kindI s).1 : Nat), .bool (kindI s).2]) ∧ w = w' := by
  go_enter Tryz.func21, Tryz.ntmps21
  go_wp2
  go_loopw [4] (fun t4 wr => ∃ k : Nat, t4 = .int .i64 (k : Int) ∧ 1 ≤ k ∧ k ≤ 5 ∧ Hid (∀ j : Nat, 1 ≤ j → j < k → wordI j ≠ s) ∧ wr = w) (fun t4 _ => (5 - intOf t4).toNat)
  case atStart => exact ⟨1, rfl, by omega, by omega, Lib.hid (fun j h1 h2 => by omega), rfl⟩
  case round =>
    obtain ⟨k, rfl, hk1, hk5, HN, rfl⟩ := hrel
    by_cases h4 : k ≤ 4
    · have c1 := owordR_any (k : Int) wr
      obtain ⟨q, hq⟩ : ∃ q, q = wordI (k : Int) := ⟨_, rfl⟩
      rw [← hq] at c1
      by_cases he : q = s
      · have HK := Lib.hid (kind_first hk1 h4 (hq.symm.trans he) HN.out)
        have t1 : (q == s) = true := by simpa using he
        clear he hq HN
        go_wp2_with (go_at_call 17; (with_reducible refine c1.mono ?_); rintro e w1 ⟨rfl, rfl⟩)
        go_ret2
        exact ⟨by rw [HK.out]; rfl, rfl⟩
      · have t1 : (q == s) = false := by simpa using he
        have HN2 : Hid (∀ j : Nat, 1 ≤ j → j < k + 1 → wordI j ≠ s) := Lib.hid (fun j h1 h2 => by
          by_cases e : j = k
          · subst e; rw [← hq]; exact he
          · exact HN.out j h1 (by omega))
        clear he hq HN
        go_wp2_with (go_at_call 17; (with_reducible refine c1.mono ?_); rintro e w1 ⟨rfl, rfl⟩)
        go_roundw
        case rel => exact ⟨k + 1, by simp, by omega, by omega, HN2, trivial⟩
        case measure => simp only [intOf]; omega
    · have HK := Lib.hid (kind_no (fun j h1 h2 => HN.out j h1 (by omega)))
      clear HN
      go_wp2
      go_ret2
      exact ⟨by rw [HK.out]; rfl, rfl⟩
end
section
open Go.RowKit
set_option maxRecDepth 100000
set_option maxHeartbeats 4000000
set_option linter.unusedVariables false
theorem slice_toB (A : Option Addr) (n c k : Nat) (h : k ≤ c) (w : World) :
    (Instr.slice 22 (.slice A n c) none (some (.int .i64 k)) none).run Tryz.prog w = .ok (.slice A k c) w := by
  have hs : (sizeOf (Tryz.prog.elem 22)).run Tryz.prog w = .ok 1 w := by kernel_rfl
  rw [run_slice_h (P := Tryz.prog) (t := 22) (a := A) (len := n) (cap := c) (ht := Tryz.underlying22) (kh := .i64) (h := (k : Int)) (h0 := by omega) (h2 := by omega), hs]
  simp only [Result.andThen, sliced]
  have := cutA_zero A c 1
  unfold cutA at this
  simp only [Int.toNat_natCast, Nat.sub_zero]
  rw [this]
theorem grow_zeros (w : World) (n : Nat) (h0 : 0 < n) (hn : n ≤ 1099511627776) : ∃ cs cap, (Builtin.append_ #[22, 3] 22 #[.slice none 0 0, .int .i64 (n : Int)]).run Tryz.prog w =
      .ok (.slice (some ⟨w.heap.size, 0, none⟩) n cap) (w.drew.alloc (.cells cs 5)) ∧ cap ≤ maxLen ∧ cs.size = cap := by
  obtain ⟨i0, hi, hz0, hz1, hz2⟩ := info_parts Tryz.info5
  refine ⟨_, _, Lib.run_append_nil_zeros (P := Tryz.prog) w 22 3 22 5 i0 (.int .u8 0) .i64 .i64 Tryz.underlying22 Tryz.underlying3 hi hz0 n h0 (by omega) (by omega) (by rw [hz2]; omega), grownCap_le_maxLen _ _ _ _ (by unfold maxLen; omega), ?_⟩
  have := grownCap_ge w n 0 5
  have hz : ∀ m, (Builtin.zeroCells (Value.int .u8 0).cells m).size = m := fun m => by simp [Builtin.zeroCells, Value.cells]
  rw [Array.size_append, hz, hz]
  omega
theorem growB (n : Nat) (hn : n ≤ 1099511627776) (w : World) : Calls Tryz.prog 97 #[.slice none 0 0, .int .i64 (n : Int)] w (Out 5 [] w) := by
  by_cases h0 : n = 0
  · subst h0
    go_enter Tryz.func97, Tryz.ntmps97
    go_wp2
    go_ret
    exact ⟨_, rfl, Win.nil _ _ _ _, Below.refl _ _⟩
  · have h1 : 0 < n := by omega
    obtain ⟨cs, cap, hr, hc1, hc2⟩ := grow_zeros w n h1 hn
    have hs0 := slice_toB none 0 0 0 (by omega)
    have hs1 := fun A => slice_toB A n cap 0 (by omega)
    have HC := Lib.hid hc2
    clear hc2
    go_enter Tryz.func97, Tryz.ntmps97
    go_wp2_with (at_builtin; refine Lib.wpList_append_run _ rfl _ _ _ _ rfl _ _ rfl rfl _ _ hr ?_)
    go_ret
    exact ⟨_, rfl, ⟨by simp, .inr ⟨w.heap.size, 0, cap, cs, rfl, Nat.le_refl _, heap_alloc_new _ _, Nat.zero_le _, hc1, by rw [HC.out]; omega, by simp [bvs]⟩⟩, ((Below.refl _ _).drew).alloc (Nat.le_refl _) _⟩
theorem flat_succ {α : Type} (ls : List (List α)) (k : Nat) (h : k < ls.length) : (ls.take (k + 1)).flatten = (ls.take k).flatten ++ ls[k] := by
  rw [List.take_succ_eq_append_getElem h, List.flatten_append]; simp
theorem flat_len {α : Type} (ls : List (List α)) (k : Nat) (h : k < ls.length) : (ls.take k).flatten.length + ls[k].length ≤ ls.flatten.length := by
  have h1 := congrArg List.length (flat_succ ls k h)
  have h2 : ls.flatten = (ls.take (k + 1)).flatten ++ (ls.drop (k + 1)).flatten := by rw [← List.flatten_append, List.take_append_drop]
  rw [h2, List.length_append, h1, List.length_append]
  omega
theorem concat_any (A : Option Addr) (cp : Nat) (ls : List (List UInt8)) (w : World) (hR : Rws w A ls) (hln : ls.length ≤ 1000000) (hlen : ls.flatten.length ≤ 1099511627776) :
    Calls Tryz.prog 52 #[.slice A ls.length cp] w (Out 5 ls.flatten w) := by
  obtain ⟨n, hn⟩ : ∃ n, n = ls.length := ⟨_, rfl⟩
  have HR := Lib.hid hR; have HL := Lib.hid hlen; have HN := Lib.hid hn
  rw [← hn] at hln ⊢
  clear hR hlen hn
  go_enter Tryz.func52, Tryz.ntmps52
  go_wp2
  go_loopw [3, 11] (fun t3 t11 wr => ∃ i : Nat, t11 = .int .i64 (i : Int) ∧ i ≤ n ∧ t3 = .int .i64 (((ls.take i).flatten.length : Nat) : Int) ∧ w = wr) (fun _ t11 _ => (n - intOf t11).toNat)
  case atStart => exact ⟨0, rfl, by omega, by simp, rfl⟩
  case round =>
    obtain ⟨i, rfl, hi, rfl, rfl⟩ := hrel
    by_cases hin : i < n
    · have hil : i < ls.length := by rw [← HN.out]; exact hin
      obtain ⟨ad, Aj, cj, rfl, hc, hcj, hAj⟩ := HR.out i ls[i] (by simp [hil])
      have hs := flat_succ ls i hil
      have hfl := flat_len ls i hil
      have hl := HL.out
      obtain ⟨m, hm⟩ : ∃ m, m = (ls.take i).flatten.length := ⟨_, rfl⟩
      have hs2 := congrArg List.length hs
      rw [List.length_append] at hs2
      rw [← hm] at hfl hs2 ⊢
      obtain ⟨q, hq⟩ : ∃ q, q = ls[i].length := ⟨_, rfl⟩
      rw [← hq] at hfl hs2 hc
      have hmq : m + q ≤ 1099511627776 := by omega
      have HS := Lib.hid hs2
      have t0 : ((m : Int) + (q : Int) < 0) = False := by simp; omega
      clear hs hs2 hfl hl hm hq hAj
      go_wp2
      go_roundw
      case rel => exact ⟨i + 1, by simp, by omega, by rw [HS.out]; simp, trivial⟩
      case measure => simp only [intOf]; omega
    · obtain rfl : i = n := by omega
      have hfu : ls.take i = ls := by rw [HN.out, List.take_length]
      have hl := HL.out
      rw [hfu]
      obtain ⟨m, hm⟩ : ∃ m, m = ls.flatten.length := ⟨_, rfl⟩
      have kg := growB m (by omega) w
      have HM := Lib.hid hm
      rw [← hm]
      clear hfu hl hm
      go_wp2_with (go_at_call 97; (with_reducible refine kg.mono ?_); rintro e w1 ⟨v1, rfl, hw1, hb1⟩)
      go_loopw [6, 27] (fun t6 t27 wq => ∃ k : Nat, t27 = .int .i64 (k : Int) ∧ k ≤ i ∧ WinB wq w.heap.size 5 t6 (ls.take k).flatten ∧ Below w.heap.size w wq) (fun _ t27 _ => (i - intOf t27).toNat)
      case atStart => exact ⟨0, rfl, by omega, hw1, hb1⟩
      case round =>
        clear hw1 hb1
        obtain ⟨k, rfl, hk, hw, hb⟩ := hrel
        by_cases hki : k < i
        · have hkl : k < ls.length := by rw [← HN.out]; exact hki
          obtain ⟨ad, Aj, cj, rfl, hc, hcj, hAj⟩ := HR.out k ls[k] (by simp [hkl])
          have hs := flat_succ ls k hkl
          have hfl := flat_len ls k hkl
          have hl := HL.out
          have hc2 := (hb.cell (World.block_lt_of_cell? w _ hc)).trans hc
          have hA2 := hAj.below hb
          obtain ⟨f, hf⟩ : ∃ f, f = (ls.take k).flatten := ⟨_, rfl⟩
          obtain ⟨r, hr⟩ : ∃ r, r = ls[k] := ⟨_, rfl⟩
          rw [← hf] at hs hfl hw
          rw [← hr] at hs hfl hc2 hA2
          have HS := Lib.hid hs
          have hfr : f.length + r.length ≤ 1099511627776 := by omega
          clear hs hfl hl hf hr hc hAj
          go_wp2_with (at_builtin; refine appW34 rfl (.tmp 31) (.tmp 32) rfl w.heap.size _ f rfl hw Aj cj r rfl hA2 (by omega) hb.size ?_; intro v2 w2 hown2 hk2 _)
          have hb2 : Below w.heap.size w w2 := hb.trans (hk2.toBelow hb.size (fun k hk e => absurd (hw.block k e).1 (by omega)))
          go_roundw
          case rel => exact ⟨k + 1, by simp, by omega, by rw [HS.out]; exact hown2, hb2⟩
          case measure => simp only [intOf]; omega
        · obtain rfl : k = i := by omega
          have hfu : ls.take k = ls := by rw [HN.out, List.take_length]
          rw [hfu] at hw
          clear hfu
          go_wp2
          go_ret
          exact ⟨_, rfl, hw, hb⟩
end
end Go.Proofs.YtcedfapcpmedfaaGreatDoor
