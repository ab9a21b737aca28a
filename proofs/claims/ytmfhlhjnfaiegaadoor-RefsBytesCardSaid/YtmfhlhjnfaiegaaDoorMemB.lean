/- Words on memory, second part: what a call may have changed (Kp); slices of the call's own, wherever they begin (Win); append to them. No condition. -/
import Derived.Test.YtmfhlhjnfaiegaaDoorMem
import Derived.Deep.AppendSrc
namespace Go.Proofs.YtmfhlhjnfaiegaaDoor
open Go.RowKit
/-- what was there and is not in S is as it was -/
structure Kp (S : Nat → Prop) (w w' : World) : Prop where
  os : w'.os = w.os
  tape : w'.tape = w.tape
  output : w'.output = w.output
  size : w.heap.size ≤ w'.heap.size
  block : ∀ k, k < w.heap.size → ¬ S k → w'.heap[k]? = w.heap[k]?
namespace Kp
theorem refl (S : Nat → Prop) (w : World) : Kp S w w := ⟨rfl, rfl, rfl, Nat.le_refl _, fun _ _ _ => rfl⟩
theorem trans {S : Nat → Prop} {a b c : World} (h : Kp S a b) (k : Kp S b c) : Kp S a c :=
  ⟨k.os.trans h.os, k.tape.trans h.tape, k.output.trans h.output, Nat.le_trans h.size k.size, fun i hi hs => (k.block i (Nat.lt_of_lt_of_le hi h.size) hs).trans (h.block i hi hs)⟩
theorem mono {S T : Nat → Prop} {w w' : World} (h : Kp S w w') (hs : ∀ k, S k → T k) : Kp T w w' := ⟨h.os, h.tape, h.output, h.size, fun i hi ht => h.block i hi (fun s => ht (hs i s))⟩
/-- what a later step may change, seen from an earlier world -/
theorem step {S T : Nat → Prop} {a b c : World} (h : Kp S a b) (k : Kp T b c) (hs : ∀ i, i < a.heap.size → T i → S i) : Kp S a c :=
  ⟨k.os.trans h.os, k.tape.trans h.tape, k.output.trans h.output, Nat.le_trans h.size k.size, fun i hi ht => (k.block i (Nat.lt_of_lt_of_le hi h.size) (fun t => ht (hs i hi t))).trans (h.block i hi ht)⟩
theorem ofBelow {S : Nat → Prop} {w w' : World} (h : Below w.heap.size w w') : Kp S w w' := ⟨h.os, h.tape, h.output, h.size, fun i hi _ => h.block i hi⟩
theorem toBelow {S : Nat → Prop} {w w' : World} {B : Nat} (h : Kp S w w') (hB : B ≤ w.heap.size) (hs : ∀ k, k < B → ¬ S k) : Below B w w' := ⟨h.os, h.tape, h.output, h.size, fun i hi => h.block i (Nat.lt_of_lt_of_le hi hB) (hs i hi)⟩
theorem alloc {S : Nat → Prop} {a w : World} (h : Kp S a w) (o : Obj) : Kp S a (w.alloc o) :=
  ⟨h.os, h.tape, h.output, Nat.le_trans h.size (by simp), fun i hi hs => (Below.heap_alloc w o i (Nat.lt_of_lt_of_le hi h.size)).trans (h.block i hi hs)⟩
theorem setCell {S : Nat → Prop} {a w : World} (h : Kp S a w) {p : Addr} (hp : S p.block ∨ a.heap.size ≤ p.block) (u : Value) : Kp S a (w.setCell p u) :=
  ⟨h.os, h.tape, h.output, by simpa [World.setCell] using h.size, fun i hi hs => (Below.heap_setCell w p u i (by
    rintro rfl
    rcases hp with hp | hp
    · exact hs hp
    · omega)).trans (h.block i hi hs)⟩
theorem drewN {S : Nat → Prop} {a w : World} (h : Kp S a w) (n : Nat) : Kp S a (w.drewN n) := ⟨h.os, h.tape, h.output, h.size, h.block⟩
theorem drew {S : Nat → Prop} {a w : World} (h : Kp S a w) : Kp S a w.drew := ⟨h.os, h.tape, h.output, h.size, h.block⟩
theorem cell {S : Nat → Prop} {w w' : World} (h : Kp S w w') {a : Addr} {v : Value} (hc : w.cell? a = some v) (hs : ¬ S a.block) : w'.cell? a = some v :=
  (World.cell?_of_block (w := w) (h.block _ (World.block_lt_of_cell? w a hc) hs)).trans hc
theorem grown {w w' : World} {row : Option Nat} (h : w.grownBy w' row) : Kp (fun k => row = some k) w w' := ⟨h.os, h.tape, h.output, h.size, fun i hi hs => h.block i hi (fun e => hs e.symm)⟩
end Kp
theorem Sl.kp {S : Nat → Prop} {w w' : World} {A : Option Addr} {l : List Value} (h : Sl w A l) (k : Kp S w w') (hs : ∀ ad, A = some ad → ¬ S ad.block) : Sl w' A l := fun j v hj => by
  obtain ⟨ad, e, hc⟩ := h j v hj
  refine ⟨ad, e, k.cell hc ?_⟩
  have : (ad.add j).block = ad.block := by unfold Addr.add; split <;> rfl
  rw [this]; exact hs ad e

/-- a slice of the call's own: n elements of so many cells each, that read as xs -/
def Win (w : World) (B : Nat) (e size : Nat) (v : Value) (n : Nat) (xs : List Value) : Prop :=
  xs.length = n * size ∧ ((v = .slice none 0 0 ∧ n = 0) ∨
    ∃ g off cap cur, v = .slice (some ⟨g, off, none⟩) n cap ∧ B ≤ g ∧ w.heap[g]? = some (.cells cur e (0, 0)) ∧ n ≤ cap ∧ cap ≤ maxLen ∧ off + cap * size ≤ cur.size ∧ (cur.toList.drop off).take (n * size) = xs)
namespace Win
variable {w w' : World} {B e size n : Nat} {v : Value} {xs : List Value}
theorem nil (w : World) (B e size : Nat) : Win w B e size (.slice none 0 0) 0 [] := ⟨by simp, .inl ⟨rfl, rfl⟩⟩
theorem ofOwns (h : w.ownsRow B e size v n xs) : Win w B e size v n xs := by
  refine ⟨h.1, ?_⟩
  rcases h.2 with h | ⟨g, cap, cur, rfl, h1, h2, h3, h4, h5, h6⟩
  · exact .inl h
  · exact .inr ⟨g, 0, cap, cur, rfl, h1, h2, h3, h4, by omega, by simpa using h6⟩
theorem block (h : Win w B e size v n xs) : ∀ g, v.ownBlock = some g → B ≤ g ∧ g < w.heap.size := by
  intro g hg
  rcases h.2 with ⟨rfl, _⟩ | ⟨g', off, cap, cur, rfl, h1, h2, _⟩
  · cases hg
  · simp [Value.ownBlock] at hg
    subst hg
    exact ⟨h1, (Array.getElem?_eq_some_iff.1 h2).1⟩
theorem keep (h : Win w B e size v n xs) (hb : ∀ g, v.ownBlock = some g → w'.heap[g]? = w.heap[g]?) : Win w' B e size v n xs := by
  refine ⟨h.1, ?_⟩
  rcases h.2 with h | ⟨g, off, cap, cur, rfl, h1, h2, h3⟩
  · exact .inl h
  · exact .inr ⟨g, off, cap, cur, rfl, h1, (hb g rfl).trans h2, h3⟩
theorem kp {S : Nat → Prop} (h : Win w B e size v n xs) (k : Kp S w w') (hs : ∀ g, v.ownBlock = some g → ¬ S g) : Win w' B e size v n xs :=
  h.keep fun g hg => k.block g (h.block g hg).2 (hs g hg)
theorem below (h : Win w B e size v n xs) (hb : Below w.heap.size w w') : Win w' B e size v n xs :=
  h.keep fun g hg => hb.block g (h.block g hg).2
theorem base {B' : Nat} (h : Win w B e size v n xs) (hB : B' ≤ B) : Win w B' e size v n xs := by
  refine ⟨h.1, ?_⟩
  rcases h.2 with h | ⟨g, off, cap, cur, rfl, h1, h2⟩
  · exact .inl h
  · exact .inr ⟨g, off, cap, cur, rfl, Nat.le_trans hB h1, h2⟩
theorem reads (h : Win w B e size v n xs) : ∃ A c, v = .slice A n c ∧ n ≤ c ∧ c ≤ maxLen ∧ Sl w A xs := by
  obtain ⟨hl, h⟩ := h
  rcases h with ⟨rfl, h0⟩ | ⟨g, off, cap, cur, rfl, _, hg, hc, hm, _, ht⟩
  · subst h0
    have : xs = [] := List.eq_nil_of_length_eq_zero (by simpa using hl)
    subst this
    exact ⟨none, 0, rfl, Nat.le_refl _, by simp, Sl.nil _ _⟩
  · refine ⟨_, cap, rfl, hc, hm, Sl.of_block hg fun j v hj => ?_⟩
    rw [← ht, List.getElem?_take] at hj
    split at hj
    · rw [List.getElem?_drop] at hj; simpa using hj
    · cases hj
theorem at_ {A : Option Addr} {c : Nat} (h : Win w B e size (.slice A n c) n xs) : Sl w A xs := by
  obtain ⟨A', c', he, _, _, hA⟩ := h.reads
  injection he with h1 _ _
  rw [h1]; exact hA
theorem form (h : Win w B e size v n xs) (hn : 0 < n) : ∃ g off cap, v = .slice (some ⟨g, off, none⟩) n cap ∧ B ≤ g ∧ g < w.heap.size ∧ n ≤ cap ∧ cap ≤ maxLen := by
  rcases h.2 with ⟨_, h0⟩ | ⟨g, off, cap, cur, rfl, h1, h2, h3, h4, _⟩
  · omega
  · exact ⟨g, off, cap, rfl, h1, (Array.getElem?_eq_some_iff.1 h2).1, h3, h4⟩
theorem take {A : Option Addr} {c k : Nat} (h : Win w B e size (.slice A n c) n xs) (hk : k ≤ n) : Win w B e size (.slice A k c) k (xs.take (k * size)) := by
  have hm : k * size ≤ n * size := Nat.mul_le_mul_right _ hk
  refine ⟨by rw [List.length_take, h.1]; exact Nat.min_eq_left hm, ?_⟩
  rcases h.2 with ⟨he, h0⟩ | ⟨g, off, cap, cur, he, h1, h2, h3, h4, h5, h6⟩
  · injection he with e1 e2 e3
    exact .inl ⟨by rw [e1, e3]; congr 1; omega, by omega⟩
  · injection he with e1 e2 e3
    subst e1 e3
    exact .inr ⟨g, off, _, cur, rfl, h1, h2, by omega, h4, h5, by rw [← h6, List.take_take, Nat.min_eq_left hm]⟩
theorem clip {A : Option Addr} {c : Nat} (h : Win w B e size (.slice A n c) n xs) : Win w B e size (.slice A n n) n xs := by
  refine ⟨h.1, ?_⟩
  rcases h.2 with ⟨he, h0⟩ | ⟨g, off, cap, cur, he, h1, h2, h3, h4, h5, h6⟩
  · injection he with e1 e2 e3
    exact .inl ⟨by rw [e1, h0], h0⟩
  · injection he with e1 e2 e3
    subst e1 e3
    exact .inr ⟨g, off, n, cur, rfl, h1, h2, Nat.le_refl _, by omega, by have := Nat.mul_le_mul_right size h3; omega, h6⟩
theorem cut {A : Option Addr} {c k : Nat} (h : Win w B e size (.slice A n c) n xs) (hk : k ≤ n) : Win w B e size (.slice (cutA A c k size) (n - k) (c - k)) (n - k) (xs.drop (k * size)) := by
  refine ⟨by rw [List.length_drop, h.1, Nat.sub_mul], ?_⟩
  rcases h.2 with ⟨he, h0⟩ | ⟨g, off, cap, cur, he, h1, h2, h3, h4, h5, h6⟩
  · injection he with e1 e2 e3
    subst e1 e3
    have : k = 0 := by omega
    subst this
    exact .inl ⟨by rw [cutA_zero]; simp [h0], by omega⟩
  · injection he with e1 e2 e3
    subst e1 e3
    by_cases hc : c = k
    · have hn : n - k = 0 := by omega
      refine .inr ⟨g, off, c - k, cur, by rw [cutA, if_pos hc], h1, h2, by omega, by omega, by have := Nat.mul_le_mul_right size (Nat.sub_le c k); omega, ?_⟩
      rw [hn, Nat.zero_mul, List.take_zero]
      refine (List.drop_eq_nil_of_le ?_).symm
      rw [h.1]
      exact Nat.mul_le_mul_right _ (by omega)
    · have hm : k * size ≤ n * size := Nat.mul_le_mul_right _ hk
      have hm2 : n * size ≤ c * size := Nat.mul_le_mul_right _ h3
      refine .inr ⟨g, off + k * size, c - k, cur, by rw [cutA, if_neg hc, Option.map_some, add_plain], h1, h2, by omega, by omega, by rw [Nat.sub_mul]; omega, ?_⟩
      rw [← h6, List.drop_take, List.drop_drop, Nat.sub_mul]
theorem set {g off c : Nat} (h : Win w B e size (.slice (some ⟨g, off, none⟩) n c) n xs) (j : Nat) (u : Value) :
    Win (w.setCell ⟨g, off + j, none⟩ u) B e size (.slice (some ⟨g, off, none⟩) n c) n (xs.set j u) := by
  refine ⟨by rw [List.length_set, h.1], ?_⟩
  rcases h.2 with ⟨he, h0⟩ | ⟨g', off', cap, cur, he, h1, h2, h3, h4, h5, h6⟩
  · cases he
  · injection he with e1 e2 e3
    injection e1 with e1
    injection e1 with e1 e1'
    subst e1 e1' e3
    refine .inr ⟨g, off, c, cur.setIfInBounds (off + j) u, rfl, h1, heap_setCell_same w g (off + j) cur e u h2, h3, h4, by simpa using h5, ?_⟩
    rw [Array.toList_setIfInBounds, List.drop_set, if_neg (by omega), Nat.add_sub_cancel_left, List.take_set, h6]
theorem cellAt {g off c : Nat} (h : Win w B e size (.slice (some ⟨g, off, none⟩) n c) n xs) (j : Nat) (hj : j < n * size) : w.cell? ⟨g, off + j, none⟩ = xs[j]? := by
  rcases h.2 with ⟨he, h0⟩ | ⟨g', off', cap, cur, he, h1, h2, h3, h4, h5, h6⟩
  · cases he
  · injection he with e1 e2 e3
    injection e1 with e1
    injection e1 with e1 e1'
    subst e1 e1' e3
    rw [cell_of_row w g (off + j) cur e (0, 0) h2, ← h6, List.getElem?_take, if_pos hj, List.getElem?_drop]
    simp
theorem free {g off c : Nat} (h : Win w B e size (.slice (some ⟨g, off, none⟩) n c) n xs) (j : Nat) : w.frozen? ⟨g, j, none⟩ = false := by
  rcases h.2 with ⟨he, h0⟩ | ⟨g', off', cap, cur, he, h1, h2, _⟩
  · cases he
  · injection he with e1 e2 e3
    injection e1 with e1
    injection e1 with e1 e1'
    subst e1
    exact frozen_of_row w g j cur e h2
end Win
theorem srcOf {P : Program} {w : World} {size : Nat} {tx e' : TypeId} (hk : P.underlying tx = some (.slice e')) {A : Option Addr} {m c : Nat} {news : List Value} (hsz : 0 < size) (hl : news.length = m * size) (hn : Sl w A news) (h1 : ∀ u ∈ news, u.oneCell' = true) :
    Src P size tx (.slice A m c) m news w := by
  cases A with
  | some ad => exact Src.ofSlice w hk ad m c news hl (fun j u hj => by obtain ⟨ad', e', hc⟩ := hn j u hj; injection e' with e'; subst e'; exact hc) h1
  | none =>
    have hnn : news = [] := by
      cases news with
      | nil => rfl
      | cons u l => obtain ⟨ad', e', _⟩ := hn 0 u rfl; cases e'
    subst hnn
    have hm : m = 0 := by
      rcases Nat.eq_zero_or_pos m with h | h
      · exact h
      · have hp := Nat.mul_pos h hsz
        rw [List.length_nil] at hl
        omega
    subst hm
    exact Src.ofNil w hk c
theorem run_appW {P : Program} {w : World} (B t tx ty e : Nat) (z : Value) (size bytes : Nat) (ht : P.underlying t = some (.slice e)) (hinfo : (P.info? e).map (fun i => (i.zero, i.size, i.bytes)) = some (some z, size, bytes))
    (hzs : z.cells.size = size) (hsz : 0 < size) (v : Value) (n : Nat) (xs : List Value) (hown : Win w B e size v n xs)
    (x : Value) (m : Nat) (news : List Value) (hs : Src P size tx x m news w) (hbytes : (n + m) * bytes ≤ 140737488355328) (h63 : n + m ≤ maxLen) (hB : B ≤ w.heap.size) :
    ∃ v' w', (Builtin.append_ #[t, tx] ty #[v, x]).run P w = .ok v' w' ∧ Win w' B e size v' (n + m) (xs ++ news) ∧ Kp (fun k => v.ownBlock = some k) w w' ∧ (v'.ownBlock = v.ownBlock ∨ v'.ownBlock = some w.heap.size) := by
  obtain ⟨i, hi, hz, hsize, hby⟩ := info_parts hinfo
  subst hsize hby
  have hl := hs.newsLen
  have hlen : (xs ++ news).length = (n + m) * i.size := by rw [List.length_append, hown.1, hl, Nat.add_mul]
  have grown : ∀ (old : Nat), old < n + m →
      Win (w.drew.alloc (.cells ((xs ++ news).toArray ++ Builtin.zeroCells z.cells (grownCap w (n + m) old e - (n + m))) e)) B e i.size
        (.slice (some ⟨w.heap.size, 0, none⟩) (n + m) (grownCap w (n + m) old e)) (n + m) (xs ++ news) := by
    intro old ho
    have hge := grownCap_ge w (n + m) old e
    have hcm : grownCap w (n + m) old e ≤ maxLen := grownCap_le_maxLen w (n + m) old e h63
    refine ⟨hlen, .inr ⟨w.heap.size, 0, _, _, rfl, hB, heap_alloc_new w.drew _, hge, hcm, ?_, ?_⟩⟩
    · simp only [Array.size_append, List.size_toArray, size_zeroCells, hzs, hlen, ← Nat.add_mul]
      refine Nat.le_of_eq ?_
      rw [Nat.zero_add]
      congr 1
      omega
    · rw [Array.toList_append, List.toList_toArray, List.drop_zero, ← hlen]
      exact List.take_left
  have hkp : ∀ o, Kp (fun k => v.ownBlock = some k) w (w.drew.alloc o) := fun o => ((Kp.refl _ w).drew).alloc o
  have hgs : ∀ old, old < n + m → Builtin.nextslicecap (n + m) old * i.bytes ≤ 281474976710656 := fun old h => growslice_fits h hbytes
  have h63' : ((n + m : Nat) : Int) ≤ 9223372036854775807 := by simp only [maxLen] at h63; omega
  rcases hown.2 with ⟨rfl, rfl⟩ | ⟨g, off, cap, cur, rfl, hbg, hg, hnc, hcm, hcs, htake⟩
  · have hx : xs = [] := List.eq_nil_of_length_eq_zero (by simpa using hown.1)
    subst hx
    by_cases hm : m = 0
    · subst hm
      have hn : news = [] := List.eq_nil_of_length_eq_zero (by simpa using hl)
      subst hn
      refine ⟨.slice none 0 0, w, ?_, Win.nil w B e i.size, Kp.refl _ _, .inl rfl⟩
      rcases hs.kind with ⟨e', hk⟩ | hk <;> simp [Builtin.append_, run_underlying ht, run_underlying hk, sizeOf, typeInfo, hi, hs.len, hs.cells]
    · have hr := run_append_grow_src (P := P) w t tx ty e i z ht hi hz none 0 0 [] (by simp [Builtin.firstCells]) x m news hs (by omega) (by simpa using h63') (hgs 0 (by omega))
      refine ⟨_, _, hr, ?_, hkp _, .inr rfl⟩
      exact grown 0 (by omega)
  · by_cases hroom : n + m ≤ cap
    · have hfit : off + n * i.size + 0 + news.length ≤ cur.size := by
        have := Nat.mul_le_mul_right i.size hroom
        rw [hl, Nat.add_zero, Nat.add_assoc, ← Nat.add_mul]; omega
      have hst := run_storeCells_at P g (off + n * i.size) e news 0 cur w hg hfit hs.one
      simp only [Nat.add_zero] at hst
      have hr : (Builtin.append_ #[t, tx] ty #[.slice (some ⟨g, off, none⟩) n cap, x]).run P w = .ok (.slice (some ⟨g, off, none⟩) (n + m) cap) (w.setRow g (cur.toList.take (off + n * i.size) ++ news ++ cur.toList.drop (off + n * i.size + news.length)).toArray) := by
        rcases hs.kind with ⟨e', hk⟩ | hk <;> simp [Builtin.append_, run_underlying ht, run_underlying hk, sizeOf, typeInfo, hi, hs.len, hroom, hs.cells, Addr.add_lit, hst]
      refine ⟨_, _, hr, ⟨hlen, .inr ⟨g, off, cap, _, rfl, hbg, setRow_heap w g cur _ e _ hg, hroom, hcm, ?_, ?_⟩⟩, ⟨rfl, rfl, rfl, by simp, fun k _ hk => setRow_other w g k _ (fun e => hk (by simp [Value.ownBlock, e]))⟩, .inl rfl⟩
      · simp only [List.size_toArray, List.length_append, List.length_take, List.length_drop, Array.length_toList]
        omega
      · have hnl : n * i.size ≤ cap * i.size := Nat.mul_le_mul_right _ hnc
        have e1 : cur.toList.take (off + n * i.size) = cur.toList.take off ++ xs := by rw [List.take_add, htake]
        have e2 : (cur.toList.take off).length = off := by rw [List.length_take, Array.length_toList]; omega
        rw [e1, List.toList_toArray, List.append_assoc, List.append_assoc, List.drop_append_of_le_length (by omega), List.drop_eq_nil_of_le (by omega), List.nil_append, ← List.append_assoc, ← hlen]
        exact List.take_left
    · have holds : ∀ j u, xs[j]? = some u → w.cell? ((⟨g, off, none⟩ : Addr).add j) = some u := fun j u hj => by
        obtain ⟨ad, ea, hc⟩ := hown.at_ j u hj
        injection ea with ea
        subst ea
        exact hc
      have hr := run_append_grow_src (P := P) w t tx ty e i z ht hi hz (some ⟨g, off, none⟩) n cap xs (run_firstCells_some (P := P) w.drew i.size n ⟨g, off, none⟩ n cap xs hown.1 (by simpa using holds)) x m news hs (by omega) h63' (hgs cap (by omega))
      exact ⟨_, _, hr, grown cap (by omega), hkp _, .inr rfl⟩
theorem wpList_appW {P : Program} {w : World} {ops : Array Oper} {rest : List Oper} {o : Oper} {a : Act} {Q : Exit → Act → World → Prop} (hgd : o.guard = none) (s x : Operand) (t tx : TypeId)
    (ho : o.op = .call { callee := .builtin .append, args := #[s, x], argTypes := #[t, tx] })
    (B e : Nat) (z : Value) (size bytes : Nat) (ht : P.underlying t = some (.slice e)) (hinfo : (P.info? e).map (fun i => (i.zero, i.size, i.bytes)) = some (some z, size, bytes))
    (hzs : z.cells.size = size) (hsz : 0 < size) (v : Value) (n : Nat) (xs : List Value) (hs : a.eval s = v) (hown : Win w B e size v n xs)
    (y : Value) (m : Nat) (news : List Value) (hx : a.eval x = y) (hsrc : Src P size tx y m news w) (hbytes : (n + m) * bytes ≤ 140737488355328) (h63 : n + m ≤ maxLen) (hB : B ≤ w.heap.size)
    (h : ∀ v' w', Win w' B e size v' (n + m) (xs ++ news) → Kp (fun k => v.ownBlock = some k) w w' → (v'.ownBlock = v.ownBlock ∨ v'.ownBlock = some w.heap.size) → wpList P ops Q rest (a.put o.dst v') w') : wpList P ops Q (o :: rest) a w := by
  refine wpList_plain hgd fun K hK => ?_
  obtain ⟨v', w', hrun, h1, h2, h3⟩ := run_appW (P := P) B t tx o.type e z size bytes ht hinfo hzs hsz v n xs hown y m news hsrc hbytes h63 hB
  unfold Oper.wp
  simp [execOp, ho, resolve, invoke, builtin, hs, hx, hrun, Result.andThen]
  exact hK _ _ (h v' w' h1 h2 h3)
/-- a struct or an array is loaded, wherever it lies -/
theorem wpList_load_agg {P : Program} {w : World} {ops : Array Oper} {rest : List Oper} {o : Oper} {a : Act} {Q : Exit → Act → World → Prop} (hgd : o.guard = none) (ty : TypeId) (x : Operand) (ho : o.op = .load ty x)
    (ad : Addr) (hx : a.eval x = .pointer (some ad)) (cs : List Value) (d : TypeDesc) (hc : Sl w (some ad) cs)
    (hu : P.underlying ty = some d) (hd : (match d with | .struct _ | .array _ _ => true | _ => false) = true) (hi : (P.info? ty).map (·.size) = some cs.length)
    (h : wpList P ops Q rest (a.put o.dst (.agg cs.toArray)) w) : wpList P ops Q (o :: rest) a w := by
  refine wpList_plain hgd fun K hK => ?_
  have hl : (loadCells ad cs.length).run P w = .ok cs.toArray w :=
    run_loadCells_list (P := P) w ad cs (fun j v hv => by obtain ⟨ad', e, hc⟩ := hc j v hv; injection e with e; subst e; exact hc)
  have hrun : (loadVar ty ad).run P w = .ok (.agg cs.toArray) w := by
    cases hq : P.info? ty with
    | none => simp [hq] at hi
    | some i =>
      have hs : i.size = cs.length := by simpa [hq] using hi
      have hagg : (isAgg ty).run P w = .ok true w := by
        unfold isAgg
        rw [Sem.run_bind, run_underlying hu w]
        cases d <;> simp_all
      simp [loadVar, Sem.run_bind, hagg, sizeOf, typeInfo, hq, hs, hl]
  unfold Oper.wp execOp
  simp only [ho, hx, Instr.loadAt, Instr.sureAddr, Sem.run_bind, Sem.run_pure, Result.andThen_ok, hrun]
  exact hK _ _ h
theorem Sl.part {w : World} {A : Option Addr} {l : List Value} (h : Sl w A l) (m : Nat) (cs : List Value) (hcs : ∀ j v, cs[j]? = some v → l[m + j]? = some v) (hne : cs ≠ []) : ∃ ad, A = some ad ∧ Sl w (some (ad.add m)) cs := by
  cases cs with
  | nil => exact absurd rfl hne
  | cons c cs =>
    obtain ⟨ad, e, _⟩ := h m c (hcs 0 c rfl)
    refine ⟨ad, e, fun j v hj => ⟨_, rfl, ?_⟩⟩
    obtain ⟨ad', e', hc⟩ := h (m + j) v (hcs j v hj)
    rw [e] at e'
    injection e' with e'
    subst e'
    rw [Addr.add_add]; exact hc
/-- bytes of the call's own -/
abbrev WinB (w : World) (B e : Nat) (v : Value) (l : List UInt8) : Prop := Win w B e 1 v l.length (bvs l)
theorem WinB.reads {w : World} {B e : Nat} {v : Value} {l : List UInt8} (h : WinB w B e v l) : ∃ A c, v = .slice A l.length c ∧ l.length ≤ c ∧ c ≤ maxLen ∧ Bs w A l := Win.reads h
theorem WinB.readsN {w : World} {B e n : Nat} {v : Value} {l : List UInt8} (h : WinB w B e v l) (hn : l.length = n) : ∃ A c, v = .slice A n c ∧ n ≤ c ∧ c ≤ maxLen ∧ Bs w A l := by
  subst hn; exact Win.reads h
theorem WinB.len {w : World} {B e k c : Nat} {A : Option Addr} {l : List UInt8} (h : WinB w B e (.slice A k c) l) : k = l.length := by
  obtain ⟨A', c', he, _⟩ := WinB.reads h
  injection he
theorem WinB.clip {w : World} {B e k c m : Nat} {A : Option Addr} {l : List UInt8} (h : WinB w B e (.slice A k c) l) (hm : m = l.length) : WinB w B e (.slice A m m) l := by
  have hk := WinB.len h
  subst hm hk
  exact Win.clip h
theorem WinB.empty {w : World} {B e : Nat} (hB : B ≤ w.heap.size) : WinB (w.alloc (.cells #[] e)) B e (.slice (some ⟨w.heap.size, 0, none⟩) 0 0) [] :=
  Win.ofOwns (World.ownsRow_lit w #[] 0 hB (by unfold maxLen; omega) rfl)
/-- a new list of bytes is handed back, nothing that was there has changed -/
def Out (T : Nat) (l : List UInt8) (w : World) (e : Ending) (w' : World) : Prop := ∃ v, e = .returned v ∧ WinB w' w.heap.size T v l ∧ Below w.heap.size w w'
end Go.Proofs.YtmfhlhjnfaiegaaDoor
