/- Refs as functions on lists of bytes: names, rows in order, lines, what bytes tell. Plain laws. No condition. -/
import Derived.Test.YtmfhlhjnfaiegaaDoorOidQ
import Derived.Test.YtmfhlhjnfaiegaaDoorShaP
import Derived.Lib.SplitLaws
namespace Go.Proofs.YtmfhlhjnfaiegaaDoor
set_option linter.unusedVariables false
theorem ib_none {c : UInt8} : ∀ {l : List UInt8}, c ∉ l → Lib.indexByte l c = -1
  | [], _ => rfl
  | b :: l, h => by
    have h1 : b ≠ c := fun e => h (by simp [e])
    have h2 := ib_none (l := l) (fun e : c ∈ l => h (List.mem_cons_of_mem _ e))
    unfold Lib.indexByte
    rw [if_neg (by simpa using h1), h2]
    rfl
theorem ib_some {c : UInt8} : ∀ {a : List UInt8} (b : List UInt8), c ∉ a → Lib.indexByte (a ++ c :: b) c = a.length
  | [], b, _ => by simp [Lib.indexByte]
  | x :: a, b, h => by
    have h1 : x ≠ c := fun e => h (by simp [e])
    have h2 := ib_some (a := a) b (fun e : c ∈ a => h (List.mem_cons_of_mem _ e))
    show (if x == c then (0 : Int) else if Lib.indexByte (a ++ c :: b) c == -1 then -1 else Lib.indexByte (a ++ c :: b) c + 1) = _
    rw [if_neg (by simpa using h1), h2, if_neg (by simp)]
    simp
theorem cut_no {c : UInt8} {s : List UInt8} (h : c ∉ s) : Lib.cut s [c] = (s, [], false) := by
  unfold Lib.cut
  rw [Lib.index_one, ib_none h, if_neg (by decide)]
theorem cut_yes {c : UInt8} {a : List UInt8} (b : List UInt8) (h : c ∉ a) : Lib.cut (a ++ c :: b) [c] = (a, b, true) := by
  unfold Lib.cut
  rw [Lib.index_one, ib_some b h, if_pos (by omega)]
  simp
theorem two_ways (c : UInt8) (s : List UInt8) : c ∉ s ∨ ∃ a b, s = a ++ c :: b ∧ c ∉ a := by
  by_cases h : c ∈ s
  · exact .inr (List.eq_append_cons_of_mem h)
  · exact .inl h
/-- cut at each c -/
def sp (c : UInt8) : List UInt8 → List (List UInt8)
  | [] => [[]]
  | x :: l => if x = c then [] :: sp c l else match sp c l with
    | h :: t => (x :: h) :: t
    | [] => [[x]]
theorem sp_ne (c : UInt8) : ∀ l, sp c l ≠ []
  | [] => by simp [sp]
  | x :: l => by
    unfold sp
    split
    · simp
    · split <;> simp
theorem sp_none {c : UInt8} : ∀ {s : List UInt8}, c ∉ s → sp c s = [s]
  | [], _ => rfl
  | x :: l, h => by
    have h1 : x ≠ c := fun e => h (by simp [e])
    have h2 := sp_none (s := l) (fun e : c ∈ l => h (List.mem_cons_of_mem _ e))
    rw [sp, if_neg h1, h2]
theorem sp_some {c : UInt8} : ∀ {a : List UInt8} (b : List UInt8), c ∉ a → sp c (a ++ c :: b) = a :: sp c b
  | [], b, _ => by simp [sp]
  | x :: a, b, h => by
    have h1 : x ≠ c := fun e => h (by simp [e])
    have h2 := sp_some (a := a) b (fun e : c ∈ a => h (List.mem_cons_of_mem _ e))
    rw [List.cons_append, sp, if_neg h1, h2]
theorem count_len {c : UInt8} (s : List UInt8) : (sp c s).length = s.count c + 1 := by
  induction s with
  | nil => rfl
  | cons x l ih =>
    unfold sp
    by_cases h : x = c
    · subst h
      rw [if_pos rfl, List.length_cons, ih, List.count_cons_self]
    · rw [if_neg h, List.count_cons_of_ne h]
      have := sp_ne c l
      generalize sp c l = q at *
      match q with
      | [] => exact absurd rfl this
      | h :: t => simpa using ih
theorem splitK_sp (c : UInt8) : ∀ (n : Nat) (s : List UInt8), s.length ≤ n → Lib.splitK [c] 0 (s.count c) s = sp c s
  | n, s, hn => by
    rcases two_ways c s with h | ⟨a, b, rfl, h⟩
    · rw [List.count_eq_zero_of_not_mem h, sp_none h]; rfl
    · match n with
      | 0 => simp at hn
      | n + 1 =>
        have ih := splitK_sp c n b (by simp at hn; omega)
        rw [sp_some b h]
        rw [show (a ++ c :: b).count c = b.count c + 1 by rw [List.count_append, List.count_eq_zero_of_not_mem h, List.count_cons_self]; omega]
        rw [Lib.splitK, Lib.index_one, ib_some b h, if_neg (by simp)]
        simp only [Int.toNat_natCast, Nat.add_zero, List.length_singleton]
        rw [show (a ++ c :: b).take a.length = a by simp, show (a ++ c :: b).drop (a.length + 1) = b by simp, ih]
theorem split_sp (c : UInt8) (s : List UInt8) : Lib.split s [c] = sp c s := by
  unfold Lib.split
  rw [Lib.count_one]
  exact splitK_sp c _ s (Nat.le_refl _)
/-- one sign more behind -/
def addL (q : List (List UInt8)) (x : UInt8) : List (List UInt8) := q.dropLast ++ [q.getLastD [] ++ [x]]
theorem sp_snoc_c (c : UInt8) : ∀ l, sp c (l ++ [c]) = sp c l ++ [[]]
  | [] => by simp [sp]
  | x :: l => by
    have ih := sp_snoc_c c l
    rw [List.cons_append, sp, sp, ih]
    by_cases h : x = c
    · rw [if_pos h, if_pos h]; rfl
    · rw [if_neg h, if_neg h]
      have := sp_ne c l
      generalize sp c l = q at *
      match q with
      | [] => exact absurd rfl this
      | h :: t => rfl
theorem sp_snoc_x {c x : UInt8} (hx : x ≠ c) : ∀ l, sp c (l ++ [x]) = addL (sp c l) x
  | [] => by simp [sp, hx, addL]
  | y :: l => by
    have ih := sp_snoc_x hx l
    rw [List.cons_append, sp, sp, ih]
    by_cases h : y = c
    · rw [if_pos h, if_pos h]
      have := sp_ne c l
      generalize sp c l = q at *
      match q with
      | [] => exact absurd rfl this
      | h :: t => simp [addL, List.getLastD]
    · rw [if_neg h, if_neg h]
      have := sp_ne c l
      generalize sp c l = q at *
      match q with
      | [] => exact absurd rfl this
      | [h] => simp [addL, List.getLastD]
      | h :: h2 :: t => simp [addL, List.getLastD]
theorem sp_mem {c x : UInt8} (hx : x ≠ c) : ∀ {l : List UInt8}, x ∈ l → ∃ q ∈ sp c l, x ∈ q
  | [], h => by simp at h
  | y :: l, h => by
    unfold sp
    by_cases hy : y = c
    · rw [if_pos hy]
      rcases List.mem_cons.1 h with e | e
      · exact absurd (e.trans hy) hx
      · obtain ⟨q, h1, h2⟩ := sp_mem hx e
        exact ⟨q, List.mem_cons_of_mem _ h1, h2⟩
    · rw [if_neg hy]
      rcases List.mem_cons.1 h with e | e
      · subst e
        generalize sp c l = q
        match q with
        | [] => exact ⟨[x], by simp, by simp⟩
        | h :: t => exact ⟨x :: h, by simp, by simp⟩
      · obtain ⟨q, h1, h2⟩ := sp_mem hx e
        have := sp_ne c l
        generalize sp c l = r at *
        match r with
        | [] => exact absurd rfl this
        | h :: t =>
          rcases List.mem_cons.1 h1 with e1 | e1
          · subst e1; exact ⟨y :: q, by simp, by simp [h2]⟩
          · exact ⟨q, by simp [e1], h2⟩
theorem sp_pre {c : UInt8} : ∀ (a b : List UInt8), sp c (a ++ c :: b) = sp c a ++ sp c b
  | [], b => by simp [sp]
  | x :: a, b => by
    have ih := sp_pre (c := c) a b
    rw [List.cons_append, sp, sp, ih]
    by_cases h : x = c
    · rw [if_pos h, if_pos h]; rfl
    · rw [if_neg h, if_neg h]
      have := sp_ne c a
      generalize sp c a = q at *
      match q with
      | [] => exact absurd rfl this
      | h :: t => rfl
/-- may a sign stand in a part of a name? -/
def okC (c : UInt8) : Bool := (decide (97 ≤ c.toNat) && decide (c.toNat ≤ 122)) || (decide (65 ≤ c.toNat) && decide (c.toNat ≤ 90)) || (decide (48 ≤ c.toNat) && decide (c.toNat ≤ 57)) || c == 46 || c == 95 || c == 45
def okW (p : List UInt8) : Bool := !(p == []) && !(p == [46]) && !(p == [46, 46])
def okP (p : List UInt8) : Bool := okW p && p.all okC
/-- may a ref be so named? -/
def nameB (s : List UInt8) : Bool := decide (s.length ≤ 100) && (sp 47 s).all okP
theorem sp_in {c : UInt8} : ∀ {l q : List UInt8} {x : UInt8}, q ∈ sp c l → x ∈ q → x ∈ l
  | [], q, x, h, hx => by simp [sp] at h; subst h; simp at hx
  | y :: l, q, x, h, hx => by
    unfold sp at h
    by_cases hy : y = c
    · rw [if_pos hy] at h
      rcases List.mem_cons.1 h with e | e
      · subst e; simp at hx
      · exact List.mem_cons_of_mem _ (sp_in e hx)
    · rw [if_neg hy] at h
      have ih := fun q x => @sp_in c l q x
      have := sp_ne c l
      generalize sp c l = r at *
      match r with
      | [] => exact absurd rfl this
      | h0 :: t =>
        rcases List.mem_cons.1 h with e | e
        · subst e
          rcases List.mem_cons.1 hx with e2 | e2
          · simp [e2]
          · exact List.mem_cons_of_mem _ (ih h0 x (by simp) e2)
        · exact List.mem_cons_of_mem _ (ih q x (by simp [e]) hx)
theorem name_sign {s : List UInt8} (h : nameB s = true) {c : UInt8} (hc : c ∈ s) : c = 47 ∨ okC c = true := by
  by_cases he : c = 47
  · exact .inl he
  · obtain ⟨q, h1, h2⟩ := sp_mem he hc
    unfold nameB at h
    rw [Bool.and_eq_true] at h
    have := List.all_eq_true.1 h.2 q h1
    unfold okP at this
    rw [Bool.and_eq_true] at this
    exact .inr (List.all_eq_true.1 this.2 c h2)
theorem name_no {s : List UInt8} (h : nameB s = true) {c : UInt8} (h1 : c ≠ 47) (h2 : okC c = false) : c ∉ s := fun e => by
  rcases name_sign h e with g | g
  · exact h1 g
  · rw [h2] at g; cases g
theorem name_nil : nameB [] = false := by decide
theorem hexs_no {id : List UInt8} {c : UInt8} (h : dig c < 0) : c ∉ hexs id := fun e => by
  have := allHex_hexs id c e
  omega
/-- a ref: its name, what it leads to -/
abbrev Rf := List UInt8 × List UInt8
abbrev Rf20 (l : List Rf) : Prop := ∀ r ∈ l, r.2.length = 20
def lineB (r : Rf) : List UInt8 := hexs r.2 ++ 32 :: (r.1 ++ [10])
def textB (l : List Rf) : List UInt8 := l.flatMap lineB
def sumB (t : List UInt8) : List UInt8 := [115, 117, 109, 32] ++ hexs (sha1 t) ++ [10]
def saidB (l : List Rf) : List UInt8 := textB l ++ sumB (textB l)
def gtN (l : List Rf) (i : Nat) : List UInt8 := (l.getD i ([], [])).1
def rightN (l : List Rf) (i : Nat) : Prop := ∀ j, j < i → nameB (gtN l j) = true ∧ (0 < j → gtN l (j - 1) < gtN l j)
instance (l : List Rf) (i : Nat) : Decidable (rightN l i) := by unfold rightN; infer_instance
def rightB (l : List Rf) : Bool := decide (rightN l l.length)
def encI (l : List Rf) : List UInt8 × Nat := if rightB l = true then (if 64 < l.length then ([], 5) else (saidB l, 0)) else ([], 1)
def lineR (t : List UInt8) : Option Rf :=
  if (Lib.cut t [32]).2.2 = true ∧ (parseI (Lib.cut t [32]).1).2 = 0 then some ((Lib.cut t [32]).2.1, (parseI (Lib.cut t [32]).1).1) else none
def sumW : List UInt8 := [115, 117, 109, 32]
def lastR (t more : List UInt8) : Bool := Lib.hasPrefix t sumW && decide ((parseI (Lib.trimPrefix t sumW)).2 = 0) && (more == [])
/-- the rows of bytes, line by line -/
def decL : Nat → List UInt8 → List Rf → Option (List Rf)
  | 0, _, _ => none
  | n + 1, s, r => if (Lib.cut s [10]).2.2 = false then none else if lastR (Lib.cut s [10]).1 (Lib.cut s [10]).2.1 = true then some r else
      match lineR (Lib.cut s [10]).1 with
      | none => none
      | some x => decL n (Lib.cut s [10]).2.1 (r ++ [x])
def decI (b : List UInt8) : List Rf × Nat :=
  match decL (b.length + 1) b [] with
  | none => ([], 2)
  | some r => if rightB r = false then ([], 2) else if saidB r ≠ b then ([], 4) else if 64 < r.length then ([], 5) else (r, 0)
theorem rightB_iff (l : List Rf) : rightB l = true ↔ rightN l l.length := by unfold rightB; exact decide_eq_true_iff
theorem right_name {l : List Rf} (h : rightB l = true) {r : Rf} (hr : r ∈ l) : nameB r.1 = true := by
  obtain ⟨j, hj, rfl⟩ := List.mem_iff_getElem.1 hr
  have := ((rightB_iff l).1 h j hj).1
  unfold gtN at this
  rwa [List.getD_eq_getElem?_getD, List.getElem?_eq_getElem hj] at this
theorem text_cons (r : Rf) (l : List Rf) : textB (r :: l) = lineB r ++ textB l := rfl
theorem line_no {r : Rf} (h : nameB r.1 = true) : (10 : UInt8) ∉ hexs r.2 ++ 32 :: r.1 := fun e => by
  rcases List.mem_append.1 e with e | e
  · exact hexs_no (by decide) e
  · rcases List.mem_cons.1 e with e | e
    · exact absurd e (by decide)
    · exact name_no h (by decide) (by decide) e
theorem line_cut {r : Rf} (h : nameB r.1 = true) (m : List UInt8) : Lib.cut (lineB r ++ m) [10] = (hexs r.2 ++ 32 :: r.1, m, true) := by
  have : lineB r ++ m = (hexs r.2 ++ 32 :: r.1) ++ 10 :: m := by simp [lineB]
  rw [this]
  exact cut_yes m (line_no h)
theorem line_lineR {r : Rf} (h20 : r.2.length = 20) : lineR (hexs r.2 ++ 32 :: r.1) = some r := by
  unfold lineR
  rw [cut_yes r.1 (hexs_no (by decide)), parseI_hexs r.2 h20]
  simp
theorem line_last {r : Rf} (h20 : r.2.length = 20) (m : List UInt8) : lastR (hexs r.2 ++ 32 :: r.1) m = false := by
  have h : Lib.hasPrefix (hexs r.2 ++ 32 :: r.1) sumW = false := by
    obtain ⟨id, hid⟩ : ∃ id, id = r.2 := ⟨_, rfl⟩
    rw [← hid] at h20 ⊢
    match id, h20 with
    | x :: id, _ =>
      have hn : ∀ k, k < 16 → hexd k ≠ 115 := by decide
      have h1 := hn (x.toNat / 16) (by have := x.toNat_lt; omega)
      rw [hexs_cons]
      unfold Lib.hasPrefix sumW
      simp [List.isPrefixOf, Ne.symm h1]
  unfold lastR
  rw [h]
  rfl
theorem dec_text : ∀ (l : List Rf) (n : Nat) (r : List Rf) (m : List UInt8), (∀ x ∈ l, nameB x.1 = true) → Rf20 l → decL (l.length + n) (textB l ++ m) r = decL n m (r ++ l)
  | [], n, r, m, _, _ => by simp [textB]
  | x :: l, n, r, m, h, h20 => by
    have hx := h x (by simp)
    have x20 := h20 x (by simp)
    rw [text_cons, List.append_assoc, show (x :: l).length + n = (l.length + n) + 1 by simp; omega]
    rw [decL, line_cut hx]
    simp only [Bool.true_eq_false, if_false, line_last x20, line_lineR x20, Bool.false_eq_true]
    rw [dec_text l n (r ++ [x]) m (fun y hy => h y (by simp [hy])) (fun y hy => h20 y (by simp [hy]))]
    simp
theorem sum_cut (t m : List UInt8) : Lib.cut (sumB t ++ m) [10] = (sumW ++ hexs (sha1 t), m, true) := by
  have : sumB t ++ m = (sumW ++ hexs (sha1 t)) ++ 10 :: m := by simp [sumB, sumW]
  rw [this]
  refine cut_yes m (fun e => ?_)
  rcases List.mem_append.1 e with e | e
  · revert e; decide
  · exact hexs_no (by decide) e
theorem pre_app (p s : List UInt8) : Lib.hasPrefix (p ++ s) p = true := by
  unfold Lib.hasPrefix
  induction p with
  | nil => rfl
  | cons x p ih => simp [ih]
theorem sum_last (t : List UInt8) : lastR (sumW ++ hexs (sha1 t)) [] = true := by
  unfold lastR Lib.trimPrefix
  rw [pre_app, if_pos rfl, show (sumW ++ hexs (sha1 t)).drop sumW.length = hexs (sha1 t) by simp, parseI_hexs _ (sha1_len t)]
  simp
/-- what is written is read again -/
theorem dec_enc {l : List Rf} (h : rightB l = true) (h20 : Rf20 l) (h64 : l.length ≤ 64) : decI (saidB l) = (l, 0) := by
  have hlen : l.length ≤ (saidB l).length := by
    have : ∀ l : List Rf, l.length ≤ (textB l).length := fun l => by
      induction l with
      | nil => simp
      | cons x l ih => rw [text_cons, List.length_append, List.length_cons]; unfold lineB; simp; omega
    have := this l
    unfold saidB
    rw [List.length_append]
    omega
  unfold decI
  obtain ⟨n, hn⟩ : ∃ n, (saidB l).length + 1 = l.length + (n + 1) := ⟨(saidB l).length - l.length, by omega⟩
  rw [hn]
  have h1 : decL (l.length + (n + 1)) (saidB l) [] = some l := by
    unfold saidB
    rw [dec_text l (n + 1) [] _ (fun x hx => right_name h hx) h20, decL]
    have := sum_cut (textB l) []
    rw [List.append_nil] at this
    rw [this]
    simp only [Bool.true_eq_false, if_false, sum_last, if_true, List.nil_append]
  rw [h1]
  simp only [h, Bool.true_eq_false, if_false, ne_eq, not_true_eq_false]
  rw [if_neg (by omega)]
/-- a row that may not be stays -/
theorem dec_keep : ∀ (n : Nat) (s : List UInt8) (r q : List Rf), decL n s r = some q → ∃ t, q = r ++ t
  | 0, _, _, _, h => by simp [decL] at h
  | n + 1, s, r, q, h => by
    unfold decL at h
    split at h
    · cases h
    · split at h
      · injection h with h; exact ⟨[], by simp [h]⟩
      · split at h
        · cases h
        · obtain ⟨t, rfl⟩ := dec_keep n _ _ _ h
          exact ⟨_, List.append_assoc _ _ _⟩
theorem dec_more : ∀ (n : Nat) (s : List UInt8) (r : List Rf), s.length < n → decL (n + 1) s r = decL n s r
  | 0, s, r, h => by omega
  | n + 1, s, r, h => by
    rw [decL, decL]
    by_cases hc : (Lib.cut s [10]).2.2 = false
    · rw [if_pos hc, if_pos hc]
    · rw [if_neg hc, if_neg hc]
      split
      · rfl
      · split
        · rfl
        · refine dec_more n _ _ ?_
          rcases two_ways 10 s with g | ⟨a, b, rfl, g⟩
          · rw [cut_no g] at hc; exact absurd rfl hc
          · rw [cut_yes b g]; simp at h ⊢; omega
end Go.Proofs.YtmfhlhjnfaiegaaDoor
