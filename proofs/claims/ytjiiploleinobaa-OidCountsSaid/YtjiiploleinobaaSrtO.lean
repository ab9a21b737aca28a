/- slices.Compact of a row of names. Conditions: fewer than 256 names, each of twenty bytes. -/
import Derived.Test.YtjiiploleinobaaSrtN
namespace Go.Proofs.Ytjiiploleinobaa
open Go.RowKit
set_option maxRecDepth 100000
set_option maxHeartbeats 4000000
set_option linter.unusedVariables false
theorem td (d : Array (List UInt8)) (p : Nat) : d.toList.getD p [] = d[p]! := by
  rw [List.getD_eq_getElem?_getD]
  by_cases h : p < d.size
  · rw [getElem!_pos d p h]; simp [h]
  · rw [getElem!_neg d p h]; simp [h]; rfl
theorem zero_one : ∀ k < 20, ((idv zs20).cells[k]!).oneCell' = true := by decide +kernel
theorem run_clear (g o c m : Nat) (w : World) (ht : w.there g o (m * 20)) :
    ∃ w' vs, (Builtin.clear_ #[36] 0 #[.slice (some ⟨g, o, none⟩) m c]).run Try.prog w = .ok (.tuple #[]) w' ∧ w' = w.setCells g o vs := by
  have hv : ∀ w : World, (zeroValue 23).run Try.prog w = .ok (idv zs20) w := fun w => by kernel_rfl
  cases m with
  | zero => exact ⟨w, [], by simp [Builtin.clear_, run_underlying Try.underlying36], rfl⟩
  | succ m =>
    have hsz : (idv zs20).cells.size = 20 := by kernel_rfl
    have hl : (Builtin.zeroCells (idv zs20).cells (m + 1)).toList.length = (m + 1) * 20 := by simp [Builtin.zeroCells, hsz]
    have hst := run_storeCells_cells (P := Try.prog) g o (Builtin.zeroCells (idv zs20).cells (m + 1)).toList 0 w (fun j hj => by simpa using (ht j (by omega)).1) (fun j hj => by simpa using (ht j (by omega)).2)
      (fun v hv => by
        simp only [Builtin.zeroCells, Array.toList_map, List.mem_map] at hv
        obtain ⟨i, _, rfl⟩ := hv
        rw [hsz]
        exact zero_one _ (Nat.mod_lt _ (by omega)))
    refine ⟨_, (Builtin.zeroCells (idv zs20).cells (m + 1)).toList, ?_, rfl⟩
    simp [Builtin.clear_, run_underlying Try.underlying36, hv, hst]
theorem Ids.front {g : Nat} {W : World} {d d' : Array (List UInt8)} (h : Ids g W d) (hs : d'.size ≤ d.size) (he : ∀ k, k < d'.size → d'[k]! = d[k]!) : Ids g W d' :=
  ⟨fun i hi => by rw [he i hi]; exact h.at_ i (by omega), fun j hj => h.free j (by omega), fun i hi => by rw [he i hi]; exact h.len i (by omega), h.dom⟩
theorem Ids.tail {g : Nat} {W : World} {d : Array (List UInt8)} (h : Ids g W d) (o : Nat) (ho : d.size * 20 ≤ o) (vs : List Value) : Ids g (W.setCells g o vs) d :=
  ⟨fun i hi => World.rangeAt_setCells_apart (h.at_ i hi) _ _ _ (.inr (.inl (by rw [bvs_length, h.len i hi]; omega))),
   fun j hj => ⟨World.isSome_setCells _ _ _ _ _ (h.free j hj).1, by rw [World.frozen?_setCells]; exact (h.free j hj).2⟩, h.len, Nat.lt_of_lt_of_le h.dom (kp_setCells g vs o W).size⟩
theorem Ids.thereFrom {g : Nat} {W : World} {d : Array (List UInt8)} (h : Ids g W d) (k m : Nat) (hm : k + m ≤ d.size) : W.there g (k * 20) (m * 20) := fun j hj => by
  have := h.free (k * 20 + j) (by omega)
  rwa [Nat.zero_add] at this
theorem St.drew {g n : Nat} {w W : World} {d : Array (List UInt8)} (h : St (Ids g) g n w W d) : St (Ids g) g n w W.drew d := ⟨h.holds.drew, h.size, h.kp.drew⟩
theorem St.load {g n : Nat} {w W : World} {d : Array (List UInt8)} (h : St (Ids g) g n w W d) (i : Nat) (hi : i < n) (o : Nat) (ho : o = i * 20) : (loadVar 23 ⟨g, o, none⟩).run Try.prog W = .ok (idv d[i]!) W := by
  subst ho; exact h.holds.load i (by rw [h.size]; exact hi)
theorem cmpt_step (l : List (List UInt8)) (m : Nat) (h : 1 ≤ m) : cmpt l (m + 1) = if l.getD m [] = l.getD (m - 1) [] then cmpt l m else cmpt l m ++ [l.getD m []] := by
  obtain ⟨k, rfl⟩ : ∃ k, m = k + 1 := ⟨m - 1, by omega⟩
  rw [cmpt, Nat.add_sub_cancel]
theorem cmpt_all (l : List (List UInt8)) : ∀ k, 1 ≤ k → k ≤ l.length → (∀ j, 1 ≤ j → j < k → l.getD j [] ≠ l.getD (j - 1) []) → cmpt l k = l.take k
  | 0, h, _, _ => absurd h (by omega)
  | 1, _, _, _ => rfl
  | k + 2, _, hl, hne => by
    rw [cmpt_step l (k + 1) (by omega), if_neg (hne (k + 1) (by omega) (by omega)), cmpt_all l (k + 1) (by omega) (by omega) (fun j h1 h2 => hne j h1 (by omega)), List.take_succ_eq_append_getElem (by omega : k + 1 < l.length)]
    congr 2
    rw [List.getD_eq_getElem?_getD, List.getElem?_eq_getElem (by omega)]; rfl
/-- what the second loop keeps -/
structure Cmp (d : Array (List UInt8)) (k0 m k : Nat) (D : Array (List UInt8)) : Prop where
  len : k = (cmpt d.toList (k0 + m)).length
  le : k ≤ k0 + m - 1
  front : ∀ p, p < k → D[p]! = (cmpt d.toList (k0 + m)).getD p []
  back : ∀ p, k0 + m - 1 ≤ p → p < d.size → D[p]! = d[p]!
theorem set_get (d : Array (List UInt8)) (i k : Nat) (x : List UInt8) (hk : k < d.size) : (d.setIfInBounds i x)[k]! = if k = i then x else d[k]! := by
  rw [getElem!_pos (d.setIfInBounds i x) k (by simpa using hk), Array.getElem_setIfInBounds hk]
  by_cases e : i = k
  · subst e; simp
  · rw [if_neg e, if_neg (Ne.symm e), getElem!_pos d k hk]
theorem Cmp.same {d D : Array (List UInt8)} {k0 m k : Nat} (h : Cmp d k0 m k D) (h0 : 1 ≤ k0) (h1 : k0 + m < d.size) (he : d[k0 + m]! = d[k0 + m - 1]!) (hm : 1 ≤ m) : Cmp d k0 (m + 1) k D := by
  have e : cmpt d.toList (k0 + (m + 1)) = cmpt d.toList (k0 + m) := by
    rw [show k0 + (m + 1) = k0 + m + 1 by omega, cmpt_step _ _ (by omega), td, td, if_pos he]
  exact ⟨by rw [e]; exact h.len, by have := h.le; omega, by rw [e]; exact h.front, fun p hp hp2 => h.back p (by omega) hp2⟩
theorem Cmp.put {d D : Array (List UInt8)} {k0 m k : Nat} (h : Cmp d k0 m k D) (hs : D.size = d.size) (h0 : 1 ≤ k0) (h1 : k0 + m < d.size) (he : ¬ d[k0 + m]! = d[k0 + m - 1]!) (hm : 1 ≤ m) : Cmp d k0 (m + 1) (k + 1) (D.setIfInBounds k d[k0 + m]!) := by
  have hle := h.le
  have e : cmpt d.toList (k0 + (m + 1)) = cmpt d.toList (k0 + m) ++ [d[k0 + m]!] := by
    rw [show k0 + (m + 1) = k0 + m + 1 by omega, cmpt_step _ _ (by omega), td, td, if_neg he]
  refine ⟨by rw [e, List.length_append, ← h.len]; rfl, by omega, fun p hp => ?_, fun p hp hp2 => ?_⟩
  · rw [set_get _ _ _ _ (by omega), e, List.getD_eq_getElem?_getD]
    by_cases hpk : p = k
    · subst hpk
      rw [if_pos rfl, List.getElem?_append_right (by rw [← h.len]; omega), ← h.len, Nat.sub_self]; rfl
    · rw [if_neg hpk, List.getElem?_append_left (by rw [← h.len]; omega), ← List.getD_eq_getElem?_getD]
      exact h.front p (by omega)
  · rw [set_get _ _ _ _ (by omega), if_neg (by omega)]
    exact h.back p (by omega) hp2
end Go.Proofs.Ytjiiploleinobaa
