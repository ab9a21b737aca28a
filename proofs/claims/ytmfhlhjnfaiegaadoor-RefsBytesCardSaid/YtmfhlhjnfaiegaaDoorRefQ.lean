/- Refs set, deleted, found in a row that rises by name: plain laws. No condition. -/
import Derived.Test.YtmfhlhjnfaiegaaDoorRefP
namespace Go.Proofs.YtmfhlhjnfaiegaaDoor
set_option linter.unusedVariables false
abbrev RisR (l : List Rf) : Prop := l.Pairwise (fun a b => a.1 < b.1)
/-- the place of a name: how many stand ahead that are less -/
def pkN (l : List Rf) (s : List UInt8) : Nat := (l.takeWhile (fun r => decide (r.1 < s))).length
def isN (l : List Rf) (s : List UInt8) : Bool := decide (pkN l s < l.length ∧ gtN l (pkN l s) = s)
def gtI (l : List Rf) (i : Nat) : List UInt8 := (l.getD i ([], [])).2
def setI (l : List Rf) (s id : List UInt8) : List Rf × Nat :=
  if nameB s = false then ([], 1) else if isN l s = true then (l.set (pkN l s) (s, id), 0) else if 64 ≤ l.length then ([], 5) else (l.take (pkN l s) ++ (s, id) :: l.drop (pkN l s), 0)
def delI (l : List Rf) (s : List UInt8) : List Rf × Nat :=
  if nameB s = false then ([], 1) else if isN l s = true then (l.take (pkN l s) ++ l.drop (pkN l s + 1), 0) else ([], 6)
theorem pkN_of : ∀ (l : List Rf) (s : List UInt8) (k : Nat), k ≤ l.length → (∀ j, j < k → gtN l j < s) → (k < l.length → ¬ gtN l k < s) → pkN l s = k
  | [], s, k, h, _, _ => by simp at h; subst h; rfl
  | x :: l, s, 0, _, _, h3 => by
    have h : ¬ x.1 < s := h3 (by simp)
    unfold pkN
    rw [List.takeWhile_cons, decide_eq_false h]
    rfl
  | x :: l, s, k + 1, h1, h2, h3 => by
    have h0 := h2 0 (by omega)
    simp [gtN] at h0
    have ih := pkN_of l s k (by simpa using h1) (fun j hj => by simpa [gtN] using h2 (j + 1) (by omega)) (fun hk => by simpa [gtN] using h3 (by simpa using hk))
    unfold pkN at *
    rw [List.takeWhile_cons, decide_eq_true h0]
    simp [ih]
theorem pkN_le (l : List Rf) (s : List UInt8) : pkN l s ≤ l.length := (List.takeWhile_sublist _).length_le
theorem ris_lt_at {l : List Rf} (h : RisR l) {i j : Nat} (hij : i < j) (hj : j < l.length) : gtN l i < gtN l j := by
  unfold gtN
  rw [List.getD_eq_getElem?_getD, List.getD_eq_getElem?_getD, List.getElem?_eq_getElem (by omega), List.getElem?_eq_getElem hj]
  exact List.pairwise_iff_getElem.1 h i j (by omega) hj hij
/-- the names of a play, one behind the other -/
def nm (i : Nat) : List UInt8 := [110, UInt8.ofNat (97 + i / 8), UInt8.ofNat (97 + i % 8)]
def rowsN (id : List UInt8) (i : Nat) : List Rf := (List.range i).map fun j => (nm j, id)
theorem nm_lt : ∀ i < 64, ∀ j < 64, i < j → nm i < nm j := by decide +kernel
theorem nm_ok : ∀ i < 64, nameB (nm i) = true := by decide +kernel
theorem nm_zz : ∀ i < 64, nm i < [122, 122] := by decide +kernel
theorem zz_ok : nameB [122, 122] = true := by decide +kernel
theorem rowsN_len (id : List UInt8) (i : Nat) : (rowsN id i).length = i := by simp [rowsN]
theorem rowsN_at (id : List UInt8) (i j : Nat) (h : j < i) : gtN (rowsN id i) j = nm j := by
  unfold gtN rowsN
  rw [List.getD_eq_getElem?_getD, List.getElem?_map, List.getElem?_range h]; rfl
theorem rowsN_succ (id : List UInt8) (i : Nat) : rowsN id (i + 1) = rowsN id i ++ [(nm i, id)] := by
  unfold rowsN
  rw [List.range_succ, List.map_append]; rfl
theorem rowsN_ris (id : List UInt8) (i : Nat) (h : i ≤ 64) : RisR (rowsN id i) := by
  rw [RisR, List.pairwise_iff_getElem]
  intro a b ha hb hab
  simp [rowsN] at ha hb ⊢
  exact nm_lt a (by omega) b (by omega) hab
theorem pk_end {l : List Rf} {s : List UInt8} (h : ∀ j, j < l.length → gtN l j < s) : pkN l s = l.length ∧ isN l s = false := by
  have e := pkN_of l s l.length (Nat.le_refl _) h (fun h => by omega)
  refine ⟨e, ?_⟩
  unfold isN
  rw [e]
  exact decide_eq_false (fun h => absurd h.1 (by omega))
theorem set_end {l : List Rf} {s id : List UInt8} (hn : nameB s = true) (hl : l.length < 64) (h : ∀ j, j < l.length → gtN l j < s) : setI l s id = (l ++ [(s, id)], 0) := by
  obtain ⟨e1, e2⟩ := pk_end h
  unfold setI
  rw [hn, e2, e1, if_neg (by decide), if_neg (by decide), if_neg (by omega)]
  simp
theorem set_rows (id : List UInt8) (i : Nat) (h : i < 64) : setI (rowsN id i) (nm i) id = (rowsN id (i + 1), 0) := by
  rw [set_end (nm_ok i h) (by rw [rowsN_len]; exact h), rowsN_succ]
  intro j hj
  rw [rowsN_len] at hj
  rw [rowsN_at id i j hj]
  exact nm_lt j (by omega) i h hj
theorem rows_zz (id : List UInt8) (n : Nat) (h : n ≤ 64) : ∀ j, j < (rowsN id n).length → gtN (rowsN id n) j < [122, 122] := fun j hj => by
  rw [rowsN_len] at hj
  rw [rowsN_at id n j hj]
  exact nm_zz j (by omega)
theorem set_zz (id other : List UInt8) (n : Nat) (h : n < 64) : setI (rowsN id n) [122, 122] other = (rowsN id n ++ [([122, 122], other)], 0) :=
  set_end zz_ok (by rw [rowsN_len]; exact h) (rows_zz id n (by omega))
theorem set_full (id other : List UInt8) : setI (rowsN id 64) [122, 122] other = ([], 5) := by
  obtain ⟨e1, e2⟩ := pk_end (rows_zz id 64 (Nat.le_refl _))
  unfold setI
  rw [zz_ok, e2, if_neg (by decide), if_neg (by decide), if_pos (by rw [rowsN_len]; exact Nat.le_refl _)]
theorem pk_zz (id x : List UInt8) (n : Nat) (h : n ≤ 64) : pkN (rowsN id n ++ [([122, 122], x)]) [122, 122] = n ∧ isN (rowsN id n ++ [([122, 122], x)]) [122, 122] = true := by
  have hl : (rowsN id n ++ [([122, 122], x)]).length = n + 1 := by simp [rowsN_len]
  have hat : gtN (rowsN id n ++ [([122, 122], x)]) n = [122, 122] := by
    unfold gtN
    rw [List.getD_eq_getElem?_getD, List.getElem?_append_right (by rw [rowsN_len]; exact Nat.le_refl _), rowsN_len, Nat.sub_self]; rfl
  have e : pkN (rowsN id n ++ [([122, 122], x)]) [122, 122] = n := by
    refine pkN_of _ _ n (by omega) (fun j hj => ?_) (fun _ => ?_)
    · unfold gtN
      rw [List.getD_eq_getElem?_getD, List.getElem?_append_left (by rw [rowsN_len]; exact hj), ← List.getD_eq_getElem?_getD]
      exact rows_zz id n h j (by rw [rowsN_len]; exact hj)
    · rw [hat]; exact List.lt_irrefl _
  refine ⟨e, ?_⟩
  unfold isN
  rw [e]
  exact decide_eq_true ⟨by omega, hat⟩
theorem set_again (id x y : List UInt8) (n : Nat) (h : n < 64) : setI (rowsN id n ++ [([122, 122], x)]) [122, 122] y = (rowsN id n ++ [([122, 122], y)], 0) := by
  obtain ⟨e1, e2⟩ := pk_zz id x n (by omega)
  unfold setI
  rw [zz_ok, e2, e1, if_neg (by decide), if_pos rfl, List.set_append_right _ _ (by rw [rowsN_len]; exact Nat.le_refl _), rowsN_len, Nat.sub_self]
  rfl
theorem del_zz (id x : List UInt8) (n : Nat) (h : n < 64) : delI (rowsN id n ++ [([122, 122], x)]) [122, 122] = (rowsN id n, 0) := by
  obtain ⟨e1, e2⟩ := pk_zz id x n (by omega)
  unfold delI
  rw [zz_ok, e2, e1, if_neg (by decide), if_pos rfl]
  congr 1
  rw [List.take_append_of_le_length (by rw [rowsN_len]; exact Nat.le_refl _), List.take_of_length_le (by rw [rowsN_len]; exact Nat.le_refl _), List.drop_eq_nil_of_le (by simp [rowsN_len]), List.append_nil]
theorem del_none (id : List UInt8) (n : Nat) (h : n ≤ 64) : delI (rowsN id n) [122, 122] = ([], 6) := by
  obtain ⟨e1, e2⟩ := pk_end (rows_zz id n h)
  unfold delI
  rw [zz_ok, e2, if_neg (by decide), if_neg (by decide)]
theorem ris_zz (id x : List UInt8) (n : Nat) (h : n ≤ 64) : RisR (rowsN id n ++ [([122, 122], x)]) := by
  refine List.pairwise_append.2 ⟨rowsN_ris id n h, List.pairwise_singleton _ _, fun a ha b hb => ?_⟩
  simp [rowsN] at ha hb
  obtain ⟨j, hj, rfl⟩ := ha
  subst hb
  exact nm_zz j (by omega)
end Go.Proofs.YtmfhlhjnfaiegaaDoor
