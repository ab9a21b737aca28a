/- The reference's Sort of names: each put in, rising. Conditions: twenty bytes each, fewer than 255 names. -/
import Derived.Test.YtjiiploleinobaaRefQ
namespace Go.Proofs.Ytjiiploleinobaa
open Go.RowKit
open Go.Sort (ltStr)
set_option maxRecDepth 100000
set_option maxHeartbeats 4000000
set_option linter.unusedVariables false
theorem fk_spec : ∀ (l : List (List UInt8)) (id : List UInt8), (∀ j, j < fk l id → ltStr (l.getD j []) id = true) ∧ (fk l id < l.length → ltStr (l.getD (fk l id) []) id = false)
  | [], id => by simp [fk]
  | x :: l, id => by
    obtain ⟨h1, h2⟩ := fk_spec l id
    cases hq : ltStr x id with
    | false =>
      have e : fk (x :: l) id = 0 := by unfold fk; rw [List.takeWhile_cons, hq]; rfl
      rw [e]
      exact ⟨fun j hj => by omega, fun _ => by simpa using hq⟩
    | true =>
      have e : fk (x :: l) id = fk l id + 1 := by unfold fk; rw [List.takeWhile_cons, hq]; rfl
      rw [e]
      refine ⟨fun j hj => ?_, fun h => by simpa using h2 (by simpa using h)⟩
      cases j with
      | zero => simpa using hq
      | succ j => simpa using h1 j (by omega)
theorem mem_getD {l : List (List UInt8)} {x : List UInt8} (h : x ∈ l) : ∃ j, j < l.length ∧ l.getD j [] = x := by
  obtain ⟨j, hj, e⟩ := List.mem_iff_getElem.1 h
  exact ⟨j, hj, by rw [List.getD_eq_getElem?_getD, List.getElem?_eq_getElem hj]; exact e⟩
theorem take_mem {l : List (List UInt8)} {k : Nat} {x : List UInt8} (h : x ∈ l.take k) : ∃ j, j < k ∧ j < l.length ∧ l.getD j [] = x := by
  obtain ⟨j, hj, e⟩ := List.mem_iff_getElem.1 h
  rw [List.length_take] at hj
  refine ⟨j, by omega, by omega, ?_⟩
  rw [List.getElem_take] at e
  rw [List.getD_eq_getElem?_getD, List.getElem?_eq_getElem (by omega)]
  exact e
theorem drop_mem {l : List (List UInt8)} {k : Nat} {x : List UInt8} (h : x ∈ l.drop k) : ∃ j, k ≤ j ∧ j < l.length ∧ l.getD j [] = x := by
  obtain ⟨j, hj, e⟩ := List.mem_iff_getElem.1 h
  rw [List.length_drop] at hj
  refine ⟨k + j, by omega, by omega, ?_⟩
  rw [List.getElem_drop] at e
  rw [List.getD_eq_getElem?_getD, List.getElem?_eq_getElem (by omega)]
  exact e
theorem put_ris {l : List (List UInt8)} (h : Ris l) (id : List UInt8) : Ris (putI l id) ∧ ∀ x, x ∈ putI l id ↔ x ∈ l ∨ x = id := by
  obtain ⟨s1, s2⟩ := fk_spec l id
  unfold putI
  split
  next hf =>
    have hf2 := of_decide_eq_true hf
    refine ⟨h, fun x => ⟨.inl, fun hx => ?_⟩⟩
    rcases hx with hx | rfl
    · exact hx
    · have hk := hf2.1
      have e := hf2.2
      rw [List.getD_eq_getElem?_getD, List.getElem?_eq_getElem hk] at e
      have e : l[fk l x] = x := e
      have hm := List.getElem_mem hk
      rwa [e] at hm
  next hf =>
    have hle := fk_le l id
    have hgt : ∀ x ∈ l.drop (fk l id), id < x := fun x hx => by
      obtain ⟨j, h1, h2, rfl⟩ := drop_mem hx
      have h3 := mono_f h h1 h2 (s2 (by omega))
      simp only [ltStr, decide_eq_false_iff_not, List.not_lt] at h3
      by_cases e : l.getD j [] = id
      · exfalso
        rcases Nat.lt_or_eq_of_le h1 with g | g
        · have h4 := ris_lt h g h2
          have h5 := s2 (by omega)
          simp only [ltStr, decide_eq_false_iff_not, List.not_lt] at h5
          rw [e] at h4
          exact absurd h4 (List.not_lt.2 h5)
        · apply hf
          unfold fis
          rw [g]
          exact decide_eq_true ⟨by rw [← g] at h2 ⊢; exact h2, by rw [← g] at e ⊢; exact e⟩
      · by_cases g : id < l.getD j []
        · exact g
        · exact absurd (List.le_antisymm (List.not_lt.1 g) h3) e
    refine ⟨?_, fun x => ?_⟩
    · refine List.pairwise_append.2 ⟨List.pairwise_append.2 ⟨h.sublist (List.take_sublist _ _), List.pairwise_singleton _ _, fun x hx y hy => ?_⟩, h.sublist (List.drop_sublist _ _), fun x hx y hy => ?_⟩
      · rw [List.mem_singleton] at hy
        subst hy
        obtain ⟨j, h1, _, rfl⟩ := take_mem hx
        simpa [ltStr] using s1 j h1
      · rcases List.mem_append.1 hx with hx | hx
        · obtain ⟨j, h1, _, rfl⟩ := take_mem hx
          obtain ⟨i, g1, g2, rfl⟩ := drop_mem hy
          exact ris_lt h (by omega) g2
        · rw [List.mem_singleton] at hx
          subst hx
          exact hgt y hy
    · have : x ∈ l ↔ x ∈ l.take (fk l id) ∨ x ∈ l.drop (fk l id) := by rw [← List.mem_append, List.take_append_drop]
      simp only [List.mem_append, List.mem_singleton, this]
      constructor
      · rintro ((h | h) | h)
        · exact .inl (.inl h)
        · exact .inr h
        · exact .inl (.inr h)
      · rintro ((h | h) | h)
        · exact .inl (.inl h)
        · exact .inr h
        · exact .inl (.inr h)
theorem put_20 {l : List (List UInt8)} (h : All20 l) {id : List UInt8} (hid : id.length = 20) : All20 (putI l id) := by
  intro x hx
  unfold putI at hx
  split at hx
  · exact h x hx
  · rcases List.mem_append.1 hx with hx | hx
    · rcases List.mem_append.1 hx with hx | hx
      · exact h x (List.mem_of_mem_take hx)
      · rw [List.mem_singleton] at hx; subst hx; exact hid
    · exact h x (List.mem_of_mem_drop hx)
theorem put_len (l : List (List UInt8)) (id : List UInt8) : (putI l id).length ≤ l.length + 1 := by
  have := fk_le l id
  unfold putI
  split
  · omega
  · simp only [List.length_append, List.length_take, List.length_drop, List.length_cons, List.length_nil]; omega
/-- what ref.Sort tells -/
def sortI (l : List (List UInt8)) : Nat → List (List UInt8)
  | 0 => []
  | i + 1 => putI (sortI l i) (l.getD i [])
theorem sortI_ok (l : List (List UInt8)) (h20 : All20 l) : ∀ i, i ≤ l.length → Ris (sortI l i) ∧ All20 (sortI l i) ∧ (sortI l i).length ≤ i ∧ ∀ x, x ∈ sortI l i ↔ x ∈ l.take i
  | 0, _ => ⟨List.Pairwise.nil, fun x hx => by simp [sortI] at hx, by simp [sortI], fun x => by simp [sortI]⟩
  | i + 1, hi => by
    obtain ⟨h1, h2, h3, h4⟩ := sortI_ok l h20 i (by omega)
    obtain ⟨p1, p2⟩ := put_ris h1 (l.getD i [])
    have := put_len (sortI l i) (l.getD i [])
    refine ⟨p1, put_20 h2 (get20 h20 i (by omega)), by rw [sortI]; omega, fun x => ?_⟩
    rw [sortI, p2, h4, List.take_succ_eq_append_getElem (by omega : i < l.length), List.mem_append, List.mem_singleton]
    have : l.getD i [] = l[i] := by rw [List.getD_eq_getElem?_getD, List.getElem?_eq_getElem (by omega)]; rfl
    rw [this]
theorem refsort_any (l : List (List UInt8)) (h20 : All20 l) (hn : l.length < 255) (A : Option Addr) (c : Nat) (w : World) (hA : Sl w A (idc l)) :
    Calls Try.prog 15 #[.slice A l.length c] w fun e w' => ∃ A' c', e = .returned (.slice A' (sortI l l.length).length c') ∧ Sl w' A' (idc (sortI l l.length)) ∧ Below w.heap.size w w' := by
  obtain ⟨n, hnn⟩ : ∃ n, n = l.length := ⟨_, rfl⟩
  rw [← hnn] at hn ⊢
  have H20 := Lib.hid h20; have HN := Lib.hid hnn; have HA := Lib.hid hA
  clear h20 hnn hA
  go_enter Try.func15, Try.ntmps15
  go_wp2
  go_loopw [3, 4] (fun t3 t4 wr => ∃ (i : Nat) (A' : Option Addr) (c' : Nat), t3 = .slice A' (sortI l i).length c' ∧ t4 = .int .i64 (i : Int) ∧ i ≤ n ∧ (sortI l i).length ≤ c' ∧ Sl wr A' (idc (sortI l i)) ∧ Below w.heap.size w wr) (fun _ t4 _ => (n - intOf t4).toNat)
  case atStart => exact ⟨0, none, 0, rfl, rfl, by omega, by simp [sortI], by simp [sortI, idc, Sl.nil], Below.refl _ _⟩
  case round =>
    obtain ⟨i, A1, c1, rfl, rfl, hi, hc1, hs1, hbw⟩ := hrel
    by_cases hin : i < n
    · have hil : i < l.length := by rw [← HN.out]; exact hin
      obtain ⟨ad, rfl⟩ : ∃ ad, A = some ad := by
        cases A with
        | some ad => exact ⟨ad, rfl⟩
        | none =>
          have := sl_none HA.out H20.out
          rw [this] at hil
          simp at hil
      have hr := (sl_row HA.out H20.out i hil).below hbw
      obtain ⟨x, hx⟩ : ∃ x, x = l.getD i [] := ⟨_, rfl⟩
      have hx20 := get20 H20.out i hil
      rw [← hx] at hr hx20
      have lx := load_id22 x hx20 _ _ hr
      obtain ⟨o1, o2, o3, _⟩ := sortI_ok l H20.out i (by omega)
      have kp := put_any (sortI l i) o2 (by omega) A1 c1 hc1 x hx20 wr hs1
      have e : putI (sortI l i) x = sortI l (i + 1) := by rw [sortI, hx]
      rw [e] at kp
      have LX := Lib.hid lx
      clear hx hx20 hr lx o1 o2 o3 e hs1
      generalize (sortI l i).length = m at *
      go_wp2_with (first
        | (refine wpList_loadG 22 (.tmp 14) rfl (ad.add (i * 20)) rfl (idv x) LX.out rfl ?_)
        | (go_at_call 34; (with_reducible refine kp.mono ?_); rintro e w1 ⟨A2, c2, rfl, hc2, hs2, hb2⟩))
      go_roundw
      case rel => exact ⟨i + 1, A2, c2, rfl, by simp, by omega, hc2, hs2, hbw.trans (hb2.mono hbw.size)⟩
      case measure => simp only [intOf]; omega
    · obtain rfl : i = n := by omega
      go_wp2
      go_ret
      exact ⟨A1, c1, rfl, hs1, hbw⟩
end Go.Proofs.Ytjiiploleinobaa
