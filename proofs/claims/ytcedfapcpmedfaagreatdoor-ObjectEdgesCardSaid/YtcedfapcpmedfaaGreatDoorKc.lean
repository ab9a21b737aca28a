/- Less compares two names' bytes. No condition.
   A name out of memory, Clip of names: small parts of the sort. No condition.
   A value with the methods Less and Swap over a row of the heap; insertionSort. Conditions: the row's length is at most 2^40, the places lie in it.
   siftDown, heapSort, reverseRange over a value with Less and Swap. Conditions: the row's length is at most 2^40, the places lie in it.
   heapSort, reverseRange over a value with Less and Swap. Conditions: the row's length is at most 2^40, the places lie in it.
   order2, median, medianAdjacent, choosePivot over a value with Less. Conditions: the row's length is at most 2^40, the places lie in it.
   choosePivot over a value with Less. Conditions: the row's length is at most 2^40, the places lie in it, eight or more lie between.
   bits.Len of a number below 256, nextPowerOfTwo, xorshift's Next. Conditions: the number is below 256. -/
import Derived.Test.YtcedfapcpmedfaaGreatDoorKa
import Derived.Lib.BytesEntry
import Derived.Lib.SliceRun
import Derived.Sort.Defs
import Derived.Sort.LotD5
import Derived.Laws.Bits64
namespace Go.Proofs.YtcedfapcpmedfaaGreatDoor
section
open Go.RowKit
set_option maxRecDepth 100000
set_option maxHeartbeats 4000000
set_option linter.unusedVariables false
theorem run_bytesOf {w : World} {A : Addr} {l : List UInt8} {c : Nat} (h : Bs w (some A) l) : (Extern.Bytes.bytesOf (.slice (some A) l.length c)).run Tryz.prog w = .ok (bstr l) w := by
  have hl := Lib.run_loadBytesX (P := Tryz.prog) w (l.map fun c => (c.toNat : Int)) A .empty (fun j x hj => by
    obtain ⟨ad, e, hc⟩ := h j (.int .u8 x) (by
      simp only [bvs, List.getElem?_map, Option.map_eq_some_iff] at hj ⊢
      obtain ⟨y, hy, rfl⟩ := hj
      exact ⟨y, hy, rfl⟩)
    injection e with e
    subst e
    exact hc)
  rw [List.length_map] at hl
  have hb : Lib.bytesOf (l.map fun c => (c.toNat : Int)) = l := by
    unfold Lib.bytesOf
    rw [List.map_map]
    conv => rhs; rw [← List.map_id l]
    exact List.map_congr_left (fun c _ => by simp)
  rw [hb] at hl
  show (Extern.Bytes.loadBytes A l.length .empty).run Tryz.prog w = _
  rw [hl]
  congr 1
  apply ByteArray.ext
  show (#[] : Array UInt8) ++ l.toArray = l.toArray
  simp
theorem run_cmpS {w : World} {A B : Addr} {la lb : List UInt8} {c c' : Nat} (hA : Bs w (some A) la) (hB : Bs w (some B) lb) :
    (Extern.BytealgCompare.compare #[.slice (some A) la.length c, .slice (some B) lb.length c']).run Tryz.prog w = .ok (.int .i64 (Lib.compareBytes la lb)) w := by
  change Sem.run Tryz.prog (do pure (goInt (Extern.BytealgCompare.cmp (← Extern.Bytes.bytesOf (.slice (some A) la.length c)) (← Extern.Bytes.bytesOf (.slice (some B) lb.length c'))))) w = _
  simp only [Sem.run_bind, run_bytesOf hA, run_bytesOf hB, Sem.run_pure, Result.andThen]
  rw [Lib.cmp_eq]
  simp
  rfl
theorem compare_any (A B : Addr) (la lb : List UInt8) (c c' : Nat) (w : World) (hA : Bs w (some A) la) (hB : Bs w (some B) lb) :
    Calls Tryz.prog 206 #[.slice (some A) la.length c, .slice (some B) lb.length c'] w fun e w' => e = .returned (.int .i64 (Lib.compareBytes la lb)) ∧ w = w' := by
  have hr := run_cmpS (c := c) (c' := c') hA hB
  go_enter Tryz.func206, Tryz.ntmps206
  go_wp2
  rw [run_callFunc_extern Tryz.func207 (by kernel_rfl) (by kernel_rfl) (by kernel_rfl) (e := Extern.BytealgCompare.compare) (by kernel_rfl), hr]
  simp only [Result.andThen]
  rw [Oper.upon_value]
  go_wp2
  go_ret
  exact ⟨rfl, rfl⟩
theorem less_any (a b : List UInt8) (w : World) (ha : a.length = 20) (hb : b.length = 20) : Calls Tryz.prog 205 #[idv a, idv b] w fun e w' => e = .returned (.bool (decide (Lib.compareBytes a b < 0))) ∧ Below w.heap.size w w' := by
  have h1 : Bs ((w.alloc (.cells (bvs a).toArray 27)).alloc (.cells (bvs b).toArray 27)) (some ⟨w.heap.size, 0, none⟩) a :=
    Sl.below (Sl.of_block (heap_alloc_new _ _) (fun j v hj => by simpa using hj)) ((Below.refl _ _).alloc (Nat.le_refl _) _)
  have h2 : Bs ((w.alloc (.cells (bvs a).toArray 27)).alloc (.cells (bvs b).toArray 27)) (some ⟨w.heap.size + 1, 0, none⟩) b := by
    have : Bs ((w.alloc (.cells (bvs a).toArray 27)).alloc (.cells (bvs b).toArray 27)) (some ⟨(w.alloc (.cells (bvs a).toArray 27)).heap.size, 0, none⟩) b := Sl.of_block (heap_alloc_new _ _) (fun j v hj => by simpa using hj)
    rwa [show (w.alloc (.cells (bvs a).toArray 27)).heap.size = w.heap.size + 1 by simp] at this
  have hbl : Below w.heap.size w ((w.alloc (.cells (bvs a).toArray 27)).alloc (.cells (bvs b).toArray 27)) := ((Below.refl _ _).alloc (Nat.le_refl _) _).alloc (by simp) _
  go_enter Tryz.func205, Tryz.ntmps205
  go_wp2
  obtain ⟨W, hW⟩ : ∃ W, W = (w.alloc (.cells (bvs a).toArray 27)).alloc (.cells (bvs b).toArray 27) := ⟨_, rfl⟩
  rw [← hW] at h1 h2 hbl ⊢
  clear hW
  have kc : ∀ n, Calls Tryz.prog 206 #[.slice (some ⟨w.heap.size, 0, none⟩) 20 20, .slice (some ⟨w.heap.size + 1, 0, none⟩) 20 20] (W.drewN n) fun e w' => e = .returned (.int .i64 (Lib.compareBytes a b)) ∧ W.drewN n = w' := fun n => by
    have := compare_any ⟨w.heap.size, 0, none⟩ ⟨w.heap.size + 1, 0, none⟩ a b 20 20 (W.drewN n) (fun j v h => h1 j v h) (fun j v h => h2 j v h)
    rwa [ha, hb] at this
  go_quiet (exact quietN (kc _))
  go_wp2
  go_ret
  exact ⟨rfl, Below.drewN hbl _⟩
end
section
open Go.RowKit
set_option maxRecDepth 100000
set_option maxHeartbeats 4000000
set_option linter.unusedVariables false
theorem Tryz.info23 : (Tryz.prog.info? 27).map (fun i => (i.zero, i.size, i.bytes)) = some (some (idv zs20), 20, 20) := by kernel_rfl
theorem load_id (id : List UInt8) (hid : id.length = 20) (ad : Addr) (w : World) (h : Sl w (some ad) (bvs id)) : (loadVar 27 ad).run Tryz.prog w = .ok (idv id) w := by
  have hl : (loadCells ad (bvs id).length).run Tryz.prog w = .ok (bvs id).toArray w :=
    run_loadCells_list (P := Tryz.prog) w ad (bvs id) (fun j v hv => by obtain ⟨ad', e, hc⟩ := h j v hv; injection e with e; subst e; exact hc)
  rw [bvs_length, hid] at hl
  have hagg : (isAgg 27).run Tryz.prog w = .ok true w := by kernel_rfl
  have hsz : (sizeOf 27).run Tryz.prog w = .ok 20 w := by kernel_rfl
  simp [loadVar, Sem.run_bind, hagg, hl]
theorem load_id22 (id : List UInt8) (hid : id.length = 20) (ad : Addr) (w : World) (h : Sl w (some ad) (bvs id)) : (loadVar 26 ad).run Tryz.prog w = .ok (idv id) w := by
  have hl : (loadCells ad (bvs id).length).run Tryz.prog w = .ok (bvs id).toArray w :=
    run_loadCells_list (P := Tryz.prog) w ad (bvs id) (fun j v hv => by obtain ⟨ad', e, hc⟩ := h j v hv; injection e with e; subst e; exact hc)
  rw [bvs_length, hid] at hl
  have hagg : (isAgg 26).run Tryz.prog w = .ok true w := by kernel_rfl
  have hsz : (sizeOf 26).run Tryz.prog w = .ok 20 w := by kernel_rfl
  simp [loadVar, Sem.run_bind, hagg, hl]
theorem clip32 (A : Option Addr) (n c : Nat) (h : n ≤ c) (w : World) : Calls Tryz.prog 115 #[.slice A n c] w fun e w' => e = .returned (.slice A n n) ∧ w = w' := by
  have hz : ∀ w : World, ∃ s, (sizeOf 27).run Tryz.prog w = .ok s w := fun w => ⟨20, by kernel_rfl⟩
  have h1 := slice_clip Tryz.underlying43 hz A n c h
  go_enter Tryz.func115, Tryz.ntmps115
  go_wp2
  go_ret
  exact ⟨rfl, rfl⟩
theorem len80 (A : Option Addr) (n c : Nat) (w : World) : Calls Tryz.prog 202 #[.slice A n c] w fun e w' => e = .returned (.int .i64 n) ∧ w = w' := by
  go_enter Tryz.func202, Tryz.ntmps202
  go_wp2
  go_ret
  exact ⟨rfl, rfl⟩
end
section
open Go.RowKit
open Go.Sort (swp insInner insOuter insertionSort)
set_option maxRecDepth 100000
set_option maxHeartbeats 4000000
set_option linter.unusedVariables false
section
variable {α : Type} {g n : Nat} {H : World → Array α → Prop}
/-- the row holds d; nothing else of what was there has changed -/
structure St {α : Type} (H : World → Array α → Prop) (g n : Nat) (w W : World) (d : Array α) : Prop where
  holds : H W d
  size : d.size = n
  kp : Kp (fun k => k = g) w W
theorem St.start (w : World) (d : Array α) (h : H w d) (hd : d.size = n) : St H g n w w d := ⟨h, hd, Kp.refl _ _⟩
theorem St.trans {w W W' : World} {d d' : Array α} (h : St H g n w W d) (k : St H g n W W' d') : St H g n w W' d' := ⟨k.holds, k.size, Kp.trans h.kp k.kp⟩
end
section
variable {α : Type} [Inhabited α]
/-- what is asked of the value S: its methods read and swap the row of n elements that the heap's block g holds -/
structure Srt (S : Value) (lt : α → α → Bool) (n g : Nat) (H : World → Array α → Prop) : Prop where
  keep : ∀ {W W' : World} {d : Array α}, H W d → W'.heap[g]? = W.heap[g]? → H W' d
  dom : ∀ {W : World} {d : Array α}, H W d → g < W.heap.size
  less : ∀ (W : World) (d : Array α) (i j : Nat), H W d → d.size = n → i < n → j < n → Calls Tryz.prog 203 #[S, .int .i64 (i : Int), .int .i64 (j : Int)] W fun e w' => e = .returned (.bool (lt d[i]! d[j]!)) ∧ Below W.heap.size W w'
  swap : ∀ (W : World) (d : Array α) (i j : Nat), H W d → d.size = n → i < n → j < n → Calls Tryz.prog 204 #[S, .int .i64 (i : Int), .int .i64 (j : Int)] W fun e w' => e = .returned (.tuple #[]) ∧ H w' (swp d i j) ∧ Kp (fun k => k = g) W w'
variable {S : Value} {lt : α → α → Bool} {n g : Nat} {H : World → Array α → Prop}
theorem St.below (X : Srt S lt n g H) {w W W' : World} {d : Array α} (h : St H g n w W d) (hb : Below W.heap.size W W') : St H g n w W' d :=
  ⟨X.keep h.holds (hb.block g (X.dom h.holds)), h.size, Kp.trans h.kp (Kp.ofBelow hb)⟩
theorem St.less (X : Srt S lt n g H) {w W : World} {d : Array α} (h : St H g n w W d) (i j : Nat) (hi : i < n) (hj : j < n) (q : Bool) (hq : lt d[i]! d[j]! = q) :
    Calls Tryz.prog 203 #[S, .int .i64 (i : Int), .int .i64 (j : Int)] W fun e w' => e = .returned (.bool q) ∧ St H g n w w' d :=
  (X.less W d i j h.holds h.size hi hj).mono fun _ _ ⟨he, hb⟩ => ⟨by rw [he, hq], h.below X hb⟩
theorem swp_size (d : Array α) (i j : Nat) : (swp d i j).size = d.size := by simp [swp]
theorem St.swap (X : Srt S lt n g H) {w W : World} {d : Array α} (h : St H g n w W d) (i j : Nat) (hi : i < n) (hj : j < n) :
    Calls Tryz.prog 204 #[S, .int .i64 (i : Int), .int .i64 (j : Int)] W fun e w' => e = .returned (.tuple #[]) ∧ St H g n w w' (swp d i j) :=
  (X.swap W d i j h.holds h.size hi hj).mono fun _ _ ⟨he, hh, hk⟩ => ⟨he, hh, by rw [swp_size, h.size], Kp.trans h.kp hk⟩
theorem St.lessI (X : Srt S lt n g H) {w W : World} {d : Array α} (h : St H g n w W d) (x y : Int) (i j : Nat) (hx : x = i) (hy : y = j) (hi : i < n) (hj : j < n) (q : Bool) (hq : lt d[i]! d[j]! = q) :
    Calls Tryz.prog 203 #[S, .int .i64 x, .int .i64 y] W fun e w' => e = .returned (.bool q) ∧ St H g n w w' d := by
  subst hx hy; exact h.less X i j hi hj q hq
theorem St.swapI (X : Srt S lt n g H) {w W : World} {d : Array α} (h : St H g n w W d) (x y : Int) (i j : Nat) (hx : x = i) (hy : y = j) (hi : i < n) (hj : j < n) :
    Calls Tryz.prog 204 #[S, .int .i64 x, .int .i64 y] W fun e w' => e = .returned (.tuple #[]) ∧ St H g n w w' (swp d i j) := by
  subst hx hy; exact h.swap X i j hi hj
theorem swap_calls (S : Value) (a : Int) (b : Int) (w : World) : (callFunc 204 #[S, .int .i64 a, .int .i64 b]).run Tryz.prog w = .ok (.enter 204 #[S, .int .i64 a, .int .i64 b]) w := by kernel_rfl
theorem less_calls (S : Value) (a : Int) (b : Int) (w : World) : (callFunc 203 #[S, .int .i64 a, .int .i64 b]).run Tryz.prog w = .ok (.enter 203 #[S, .int .i64 a, .int .i64 b]) w := by kernel_rfl
theorem insInner_a (lt : α → α → Bool) (a : Nat) (d : Array α) : insInner lt a a d = d := by
  cases a with
  | zero => rfl
  | succ a => simp [insInner]
theorem ins_any (X : Srt S lt n g H) (hn : n ≤ 1099511627776) (d : Array α) (a b : Nat) (hab : a ≤ b) (hb : b ≤ n) (w : World) (h : H w d) (hd : d.size = n) :
    Calls Tryz.prog 160 #[.iface 171 S, .int .i64 (a : Int), .int .i64 (b : Int)] w fun e w' => e = .returned (.tuple #[]) ∧ St H g n w w' (insertionSort lt d a b) := by
  have mS : ∀ (w : World), (method 350 171 S "Less").run Tryz.prog w = .ok (203, S) w := fun w => by kernel_rfl
  have mT : ∀ (w : World), (method 350 171 S "Swap").run Tryz.prog w = .ok (204, S) w := fun w => by kernel_rfl
  have cS := less_calls S
  have cT := swap_calls S
  have st0 := St.start (g := g) (n := n) w d h hd
  have Hn := Lib.hid hn
  have Hd := Lib.hid hd
  clear h hd
  go_enter Tryz.func160, Tryz.ntmps160
  go_wp2
  go_loopw [6] (fun t6 wr => ∃ (i : Nat) (d' : Array α), t6 = .int .i64 (i : Int) ∧ a + 1 ≤ i ∧ (i ≤ b ∨ i = a + 1) ∧ Hid (insOuter lt a b i d' = insertionSort lt d a b) ∧ St H g n w wr d') (fun t6 _ => b - (intOf t6).toNat)
  case atStart => exact ⟨a + 1, d, by simp, Nat.le_refl _, .inr rfl, Lib.hid rfl, st0⟩
  case round =>
    clear st0
    obtain ⟨i, d', rfl, hi1, hi2, hE, hst⟩ := hrel
    by_cases hib : i < b
    · go_wp2
      go_loopw [7] (fun t7 wq => ∃ (j : Nat) (d'' : Array α), t7 = .int .i64 (j : Int) ∧ a ≤ j ∧ j ≤ i ∧ Hid (insInner lt a j d'' = insInner lt a i d') ∧ St H g n w wq d'') (fun t7 _ => (intOf t7).toNat)
      case atStart => exact ⟨i, d', rfl, by omega, Nat.le_refl _, Lib.hid rfl, hst⟩
      case round =>
        clear hst
        obtain ⟨j, d'', rfl, hj1, hj2, hF, hst⟩ := hrel
        by_cases hja : a < j
        · obtain ⟨q, hq⟩ : ∃ q, lt d''[j]! d''[j - 1]! = q := ⟨_, rfl⟩
          have k1 := hst.lessI X (j : Int) ((j : Int) - 1) j (j - 1) rfl (by omega) (by omega) (by omega) q hq
          have F : insInner lt a j d'' = if q = true then insInner lt a (j - 1) (swp d'' j (j - 1)) else d'' := by
            obtain ⟨m, rfl⟩ : ∃ m, j = m + 1 := ⟨j - 1, by omega⟩
            rw [Nat.add_sub_cancel] at hq ⊢
            rw [insInner, hq]
            have : (decide (m + 1 > a) && q) = q := by simp [hja]
            rw [this]
          have HF := Lib.hid F
          clear F hq
          cases q with
          | false =>
            go_wp2_with (go_at_call 203; (with_reducible refine k1.mono ?_); rintro e w1 ⟨rfl, hst1⟩)
            go_roundw
            case rel => exact ⟨i + 1, d'', by simp, by omega, by omega, Lib.hid (by have e := hE.out; rw [insOuter, if_pos hib, ← hF.out, HF.out] at e; exact e), hst1⟩
            case measure => simp [intOf]; omega
          | true =>
            go_wp2_with (first
              | (go_at_call 203; (with_reducible refine k1.mono ?_); rintro e w1 ⟨rfl, hst1⟩
                 have k2 := hst1.swapI X (j : Int) ((j : Int) - 1) j (j - 1) rfl (by omega) (by omega) (by omega))
              | (go_at_call 204; (with_reducible refine k2.mono ?_); rintro e w2 ⟨rfl, hst2⟩))
            go_roundw
            case rel => exact ⟨j - 1, swp d'' j (j - 1), by congr 1; omega, by omega, by omega, Lib.hid (by have e := hF.out; rw [HF.out] at e; exact e), hst2⟩
            case measure => simp [intOf]; omega
        · go_wp2
          go_roundw
          case rel =>
            obtain rfl : j = a := by omega
            exact ⟨i + 1, d'', by simp, by omega, by omega, Lib.hid (by have e := hE.out; rw [insOuter, if_pos hib, ← hF.out, insInner_a] at e; exact e), hst⟩
          case measure => simp [intOf]; omega
    · go_wp2
      go_end0
      refine ⟨rfl, ?_⟩
      have e := hE.out
      rw [insOuter, if_neg hib] at e
      rw [← e]; exact hst
end
end
section
open Go.RowKit
open Go.Sort (swp siftDown heapBuild heapPop heapSort reverseLoop reverseRange)
set_option maxRecDepth 100000
set_option maxHeartbeats 4000000
set_option linter.unusedVariables false
section
variable {α : Type} [Inhabited α] {S : Value} {lt : α → α → Bool} {n g : Nat} {H : World → Array α → Prop}
theorem sift_eq (lt : α → α → Bool) (hi first r c : Nat) (d : Array α) (q2 : Bool) (h1 : ¬ hi ≤ 2 * r + 1)
    (hc : (2 * r + 2 < hi ∧ lt d[first + (2 * r + 1)]! d[first + (2 * r + 1) + 1]! = true ∧ c = 2 * r + 2) ∨ ((hi ≤ 2 * r + 2 ∨ lt d[first + (2 * r + 1)]! d[first + (2 * r + 1) + 1]! = false) ∧ c = 2 * r + 1))
    (h2 : lt d[first + r]! d[first + c]! = q2) : siftDown lt hi first r d = if q2 = true then siftDown lt hi first c (swp d (first + r) (first + c)) else d := by
  rw [siftDown]
  rw [dif_neg (by omega)]
  rcases hc with ⟨g1, g2, rfl⟩ | ⟨g1, rfl⟩
  · rw [if_pos (by simp [g1, g2]), h2]
    cases q2 with
    | false => simp
    | true => simp [g1]
  · rw [if_neg (by rcases g1 with g1 | g1 <;> simp [g1]; omega), h2]
    cases q2 <;> simp
theorem sift_any (X : Srt S lt n g H) (hn : n ≤ 1099511627776) (d : Array α) (lo hi first : Nat) (hl : lo ≤ n) (hf : first + hi ≤ n) (w : World) (h : H w d) (hd : d.size = n) :
    Calls Tryz.prog 174 #[.iface 171 S, .int .i64 (lo : Int), .int .i64 (hi : Int), .int .i64 (first : Int)] w fun e w' => e = .returned (.tuple #[]) ∧ St H g n w w' (siftDown lt hi first lo d) := by
  have mS : ∀ (w : World), (method 350 171 S "Less").run Tryz.prog w = .ok (203, S) w := fun w => by kernel_rfl
  have mT : ∀ (w : World), (method 350 171 S "Swap").run Tryz.prog w = .ok (204, S) w := fun w => by kernel_rfl
  have cS := less_calls S
  have cT := swap_calls S
  have st0 := St.start (g := g) (n := n) w d h hd
  have Hd := Lib.hid hd
  clear h hd
  go_enter Tryz.func174, Tryz.ntmps174
  go_wp2
  go_loopw [8] (fun t8 wr => ∃ (r : Nat) (d' : Array α), t8 = .int .i64 (r : Int) ∧ r ≤ n ∧ Hid (siftDown lt hi first r d' = siftDown lt hi first lo d) ∧ St H g n w wr d') (fun t8 _ => hi - (intOf t8).toNat)
  case atStart => exact ⟨lo, d, rfl, hl, Lib.hid rfl, st0⟩
  case round =>
    clear st0
    obtain ⟨r, d', rfl, hr, hE, hst⟩ := hrel
    by_cases h1 : hi ≤ 2 * r + 1
    · go_wp2
      go_end0
      refine ⟨rfl, ?_⟩
      have e := hE.out
      rw [siftDown, dif_pos h1] at e
      rw [← e]; exact hst
    by_cases h2 : 2 * r + 2 < hi
    · obtain ⟨q1, hq1⟩ : ∃ q, lt d'[first + (2 * r + 1)]! d'[first + (2 * r + 1) + 1]! = q := ⟨_, rfl⟩
      have k1 := hst.lessI X ((first : Int) + (2 * (r : Int) + 1)) ((first : Int) + (2 * (r : Int) + 1) + 1) (first + (2 * r + 1)) (first + (2 * r + 1) + 1) (by omega) (by omega) (by omega) (by omega) q1 hq1
      cases q1 with
      | true =>
        obtain ⟨q2, hq2⟩ : ∃ q, lt d'[first + r]! d'[first + (2 * r + 2)]! = q := ⟨_, rfl⟩
        have F := sift_eq lt hi first r (2 * r + 2) d' q2 h1 (.inl ⟨h2, hq1, rfl⟩) hq2
        have HF := Lib.hid F
        have HQ := Lib.hid hq2
        clear F hq1 hq2
        cases q2 with
        | true =>
          go_wp2_with (first
            | (go_at_call 203; (with_reducible refine k1.mono ?_); rintro e w1 ⟨rfl, hst1⟩
               have k2 := hst1.lessI X ((first : Int) + (r : Int)) ((first : Int) + (2 * (r : Int) + 1 + 1)) (first + r) (first + (2 * r + 2)) (by omega) (by omega) (by omega) (by omega) true HQ.out)
            | (go_at_call 203; (with_reducible refine k2.mono ?_); rintro e w2 ⟨rfl, hst2⟩
               have k3 := hst2.swapI X ((first : Int) + (r : Int)) ((first : Int) + (2 * (r : Int) + 1 + 1)) (first + r) (first + (2 * r + 2)) (by omega) (by omega) (by omega) (by omega))
            | (go_at_call 204; (with_reducible refine k3.mono ?_); rintro e w3 ⟨rfl, hst3⟩))
          go_roundw
          case rel => exact ⟨2 * r + 2, _, by congr 1, by omega, Lib.hid (by have e := hE.out; rw [HF.out] at e; exact e), hst3⟩
          case measure => simp [intOf]; omega
        | false =>
          go_wp2_with (first
            | (go_at_call 203; (with_reducible refine k1.mono ?_); rintro e w1 ⟨rfl, hst1⟩
               have k2 := hst1.lessI X ((first : Int) + (r : Int)) ((first : Int) + (2 * (r : Int) + 1 + 1)) (first + r) (first + (2 * r + 2)) (by omega) (by omega) (by omega) (by omega) false HQ.out)
            | (go_at_call 203; (with_reducible refine k2.mono ?_); rintro e w2 ⟨rfl, hst2⟩))
          (try simp only [Exit.inBlock, Exit.then])
          refine bodyPost_ret (results_none rfl _ _ _) rfl ?_
          exact ⟨rfl, by have e := hE.out; rw [HF.out] at e; rw [← e]; exact hst2⟩
      | false =>
        obtain ⟨q2, hq2⟩ : ∃ q, lt d'[first + r]! d'[first + (2 * r + 1)]! = q := ⟨_, rfl⟩
        have F := sift_eq lt hi first r (2 * r + 1) d' q2 h1 (.inr ⟨.inr hq1, rfl⟩) hq2
        have HF := Lib.hid F
        have HQ := Lib.hid hq2
        clear F hq1 hq2
        cases q2 with
        | true =>
          go_wp2_with (first
            | (go_at_call 203; (with_reducible refine k1.mono ?_); rintro e w1 ⟨rfl, hst1⟩
               have k2 := hst1.lessI X ((first : Int) + (r : Int)) ((first : Int) + (2 * (r : Int) + 1)) (first + r) (first + (2 * r + 1)) (by omega) (by omega) (by omega) (by omega) true HQ.out)
            | (go_at_call 203; (with_reducible refine k2.mono ?_); rintro e w2 ⟨rfl, hst2⟩
               have k3 := hst2.swapI X ((first : Int) + (r : Int)) ((first : Int) + (2 * (r : Int) + 1)) (first + r) (first + (2 * r + 1)) (by omega) (by omega) (by omega) (by omega))
            | (go_at_call 204; (with_reducible refine k3.mono ?_); rintro e w3 ⟨rfl, hst3⟩))
          go_roundw
          case rel => exact ⟨2 * r + 1, _, by congr 1, by omega, Lib.hid (by have e := hE.out; rw [HF.out] at e; exact e), hst3⟩
          case measure => simp [intOf]; omega
        | false =>
          go_wp2_with (first
            | (go_at_call 203; (with_reducible refine k1.mono ?_); rintro e w1 ⟨rfl, hst1⟩
               have k2 := hst1.lessI X ((first : Int) + (r : Int)) ((first : Int) + (2 * (r : Int) + 1)) (first + r) (first + (2 * r + 1)) (by omega) (by omega) (by omega) (by omega) false HQ.out)
            | (go_at_call 203; (with_reducible refine k2.mono ?_); rintro e w2 ⟨rfl, hst2⟩))
          (try simp only [Exit.inBlock, Exit.then])
          refine bodyPost_ret (results_none rfl _ _ _) rfl ?_
          exact ⟨rfl, by have e := hE.out; rw [HF.out] at e; rw [← e]; exact hst2⟩
    · obtain ⟨q2, hq2⟩ : ∃ q, lt d'[first + r]! d'[first + (2 * r + 1)]! = q := ⟨_, rfl⟩
      have F := sift_eq lt hi first r (2 * r + 1) d' q2 h1 (.inr ⟨.inl (by omega), rfl⟩) hq2
      have k2 := hst.lessI X ((first : Int) + (r : Int)) ((first : Int) + (2 * (r : Int) + 1)) (first + r) (first + (2 * r + 1)) (by omega) (by omega) (by omega) (by omega) q2 hq2
      have HF := Lib.hid F
      clear F hq2
      cases q2 with
      | true =>
        go_wp2_with (first
          | (go_at_call 203; (with_reducible refine k2.mono ?_); rintro e w2 ⟨rfl, hst2⟩
             have k3 := hst2.swapI X ((first : Int) + (r : Int)) ((first : Int) + (2 * (r : Int) + 1)) (first + r) (first + (2 * r + 1)) (by omega) (by omega) (by omega) (by omega))
          | (go_at_call 204; (with_reducible refine k3.mono ?_); rintro e w3 ⟨rfl, hst3⟩))
        go_roundw
        case rel => exact ⟨2 * r + 1, _, by congr 1, by omega, Lib.hid (by have e := hE.out; rw [HF.out] at e; exact e), hst3⟩
        case measure => simp [intOf]; omega
      | false =>
        go_wp2_with (first
          | (go_at_call 203; (with_reducible refine k2.mono ?_); rintro e w2 ⟨rfl, hst2⟩))
        (try simp only [Exit.inBlock, Exit.then])
        refine bodyPost_ret (results_none rfl _ _ _) rfl ?_
        exact ⟨rfl, by have e := hE.out; rw [HF.out] at e; rw [← e]; exact hst2⟩
end
end
section
open Go.RowKit
open Go.Sort (swp siftDown heapBuild heapPop heapSort reverseLoop reverseRange)
set_option maxRecDepth 100000
set_option maxHeartbeats 4000000
set_option linter.unusedVariables false
section
variable {α : Type} [Inhabited α] {S : Value} {lt : α → α → Bool} {n g : Nat} {H : World → Array α → Prop}
def prd : Nat → Int
  | 0 => -1
  | m + 1 => m
theorem St.sift (X : Srt S lt n g H) (hn : n ≤ 1099511627776) {w W : World} {d : Array α} (h : St H g n w W d) (lo hi first : Nat) (z y x : Int) (hz : z = lo) (hy : y = hi) (hx : x = first) (hl : lo ≤ n) (hf : first + hi ≤ n) :
    Calls Tryz.prog 174 #[.iface 171 S, .int .i64 z, .int .i64 y, .int .i64 x] W fun e w' => e = .returned (.tuple #[]) ∧ St H g n w w' (siftDown lt hi first lo d) := by
  subst hz hy hx
  exact (sift_any X hn d lo hi first hl hf W h.holds h.size).mono fun _ _ ⟨he, k⟩ => ⟨he, h.trans k⟩
theorem heap_any (X : Srt S lt n g H) (hn : n ≤ 1099511627776) (d : Array α) (a b : Nat) (hab : a < b) (hb : b ≤ n) (w : World) (h : H w d) (hd : d.size = n) :
    Calls Tryz.prog 161 #[.iface 171 S, .int .i64 (a : Int), .int .i64 (b : Int)] w fun e w' => e = .returned (.tuple #[]) ∧ St H g n w w' (heapSort lt d a b) := by
  have mT : ∀ (w : World), (method 350 171 S "Swap").run Tryz.prog w = .ok (204, S) w := fun w => by kernel_rfl
  have cT := swap_calls S
  have st0 := St.start (g := g) (n := n) w d h hd
  have Hd := Lib.hid hd
  obtain ⟨hi, hhi⟩ : ∃ hi, hi = b - a := ⟨_, rfl⟩
  obtain ⟨K, hK⟩ : ∃ K, K = (hi - 1) / 2 + 1 := ⟨_, rfl⟩
  have hE : heapSort lt d a b = heapPop lt a hi (heapBuild lt hi a K d) := by rw [heapSort, hK, hhi]
  have HE := Lib.hid hE
  have e1 : (b : Int) - a = hi := by omega
  have P1 := Lib.hid (show prd hi = (hi : Int) - 1 by cases hi with
    | zero => omega
    | succ m => simp [prd])
  have P2 := Lib.hid (show prd K = ((hi : Int) - 1) / 2 by rw [hK]; simp only [prd]; omega)
  have hK2 : K ≤ hi := by omega
  have h0 : 1 ≤ hi := by omega
  have hB : a + hi ≤ n := by omega
  clear h hd hE hhi hK
  go_enter Tryz.func161, Tryz.ntmps161
  go_wp2
  go_loopw [9] (fun t9 wr => ∃ (k : Nat) (d' : Array α), t9 = .int .i64 (prd k) ∧ k ≤ hi ∧ Hid (heapBuild lt hi a k d' = heapBuild lt hi a K d) ∧ St H g n w wr d') (fun t9 _ => ((intOf t9) + 1).toNat)
  case atStart => exact ⟨K, d, by rw [P2.out], hK2, Lib.hid rfl, st0⟩
  case round =>
    clear st0
    obtain ⟨k, d', rfl, hk, hF, hst⟩ := hrel
    cases k with
    | succ m =>
      simp only [prd]
      have k1 := hst.sift X hn m hi a (m : Int) (hi : Int) (a : Int) rfl rfl rfl (by omega) hB
      go_wp2_with (go_at_call 174; (with_reducible refine k1.mono ?_); rintro e w1 ⟨rfl, hst1⟩)
      go_roundw
      case rel => exact ⟨m, _, by congr 1; cases m with
        | zero => rfl
        | succ m => simp, by omega, Lib.hid (by have e := hF.out; rw [heapBuild] at e; exact e), hst1⟩
      case measure => show ((m : Int) - 1 + 1).toNat < ((m : Int) + 1).toNat; omega
    | zero =>
      simp only [prd]
      go_wp2
      go_loopw [10] (fun t10 wr => ∃ (k : Nat) (d' : Array α), t10 = .int .i64 (prd k) ∧ k ≤ hi ∧ Hid (heapPop lt a k d' = heapSort lt d a b) ∧ St H g n w wr d') (fun t10 _ => ((intOf t10) + 1).toNat)
      case atStart => exact ⟨hi, d', by rw [P1.out], Nat.le_refl _, Lib.hid (by rw [HE.out, ← hF.out]; rfl), hst⟩
      case round =>
        clear hst
        obtain ⟨k, d'', rfl, hk, hG, hst⟩ := hrel
        cases k with
        | succ m =>
          simp only [prd]
          have k1 := hst.swapI X (a : Int) ((a : Int) + (m : Int)) a (a + m) rfl (by omega) (by omega) (by omega)
          go_wp2_with (first
            | (go_at_call 204; (with_reducible refine k1.mono ?_); rintro e w1 ⟨rfl, hst1⟩
               have k2 := hst1.sift X hn 0 m a 0 (m : Int) (a : Int) rfl rfl rfl (by omega) (by omega))
            | (go_at_call 174; (with_reducible refine k2.mono ?_); rintro e w2 ⟨rfl, hst2⟩))
          go_roundw
          case rel => exact ⟨m, _, by congr 1; cases m with
            | zero => rfl
            | succ m => simp, by omega, Lib.hid (by have e := hG.out; rw [heapPop] at e; exact e), hst2⟩
          case measure => show ((m : Int) - 1 + 1).toNat < ((m : Int) + 1).toNat; omega
        | zero =>
          simp only [prd]
          go_wp2
          go_end0
          exact ⟨rfl, by have e := hG.out; rw [heapPop] at e; rw [← e]; exact hst⟩
theorem reverse_any (X : Srt S lt n g H) (hn : n ≤ 1099511627776) (d : Array α) (a b : Nat) (hab : a < b) (hb : b ≤ n) (w : World) (h : H w d) (hd : d.size = n) :
    Calls Tryz.prog 164 #[.iface 171 S, .int .i64 (a : Int), .int .i64 (b : Int)] w fun e w' => e = .returned (.tuple #[]) ∧ St H g n w w' (reverseRange d a b) := by
  have mT : ∀ (w : World), (method 350 171 S "Swap").run Tryz.prog w = .ok (204, S) w := fun w => by kernel_rfl
  have cT := swap_calls S
  have st0 := St.start (g := g) (n := n) w d h hd
  have Hd := Lib.hid hd
  clear h hd
  go_enter Tryz.func164, Tryz.ntmps164
  go_wp2
  go_loopw [6, 7] (fun t6 t7 wr => ∃ (i j : Nat) (d' : Array α), t6 = .int .i64 (i : Int) ∧ t7 = .int .i64 (j : Int) ∧ a ≤ i ∧ i ≤ n ∧ j < b ∧ Hid (reverseLoop i j d' = reverseRange d a b) ∧ St H g n w wr d') (fun t6 t7 _ => ((intOf t7) - (intOf t6)).toNat)
  case atStart => exact ⟨a, b - 1, d, rfl, by congr 1; omega, Nat.le_refl _, by omega, by omega, Lib.hid rfl, st0⟩
  case round =>
    clear st0
    obtain ⟨i, j, d', rfl, rfl, hi, hi2, hj, hF, hst⟩ := hrel
    by_cases hij : i < j
    · have k1 := hst.swapI X (i : Int) (j : Int) i j rfl rfl (by omega) (by omega)
      go_wp2_with (go_at_call 204; (with_reducible refine k1.mono ?_); rintro e w1 ⟨rfl, hst1⟩)
      go_roundw
      case rel => exact ⟨i + 1, j - 1, _, by simp, by congr 1; omega, by omega, by omega, by omega, Lib.hid (by have e := hF.out; rw [reverseLoop, if_pos hij] at e; exact e), hst1⟩
      case measure => simp only [intOf]; omega
    · go_wp2
      go_end0
      exact ⟨rfl, by have e := hF.out; rw [reverseLoop, if_neg hij] at e; rw [← e]; exact hst⟩
end
end
section
open Go.RowKit
open Go.Sort (swp order2 median medianAdjacent choosePivot)
set_option maxRecDepth 100000
set_option maxHeartbeats 4000000
set_option linter.unusedVariables false
section
variable {α : Type} [Inhabited α] {S : Value} {lt : α → α → Bool} {n g : Nat} {H : World → Array α → Prop}
/-- the row holds d, the count of swaps stands in a block of the call's own -/
structure Pv (H : World → Array α → Prop) (g n sb : Nat) (w W : World) (d : Array α) (s : Nat) : Prop where
  holds : H W d
  size : d.size = n
  cell : W.heap[sb]? = some (.cells #[.int .i64 (s : Int)] 3 (0, 0))
  old : g < w.heap.size
  new : w.heap.size ≤ sb
  kp : Below w.heap.size w W
theorem Pv.below (X : Srt S lt n g H) {sb s : Nat} {w W W' : World} {d : Array α} (h : Pv H g n sb w W d s) (hb : Below W.heap.size W W') : Pv H g n sb w W' d s :=
  ⟨X.keep h.holds (hb.block g (X.dom h.holds)), h.size, (hb.block sb (Array.getElem?_eq_some_iff.1 h.cell).1).trans h.cell, h.old, h.new, h.kp.trans (hb.mono h.kp.size)⟩
theorem Pv.lessI (X : Srt S lt n g H) {sb s : Nat} {w W : World} {d : Array α} (h : Pv H g n sb w W d s) (x y : Int) (i j : Nat) (hx : x = i) (hy : y = j) (hi : i < n) (hj : j < n) (q : Bool) (hq : lt d[i]! d[j]! = q) :
    Calls Tryz.prog 203 #[S, .int .i64 x, .int .i64 y] W fun e w' => e = .returned (.bool q) ∧ Pv H g n sb w w' d s := by
  subst hx hy
  exact (X.less W d i j h.holds h.size hi hj).mono fun _ _ ⟨he, hb⟩ => ⟨by rw [he, hq], h.below X hb⟩
theorem Pv.up (X : Srt S lt n g H) {sb s : Nat} {w W : World} {d : Array α} (h : Pv H g n sb w W d s) (z : Int) (hz : z = ((s + 1 : Nat) : Int)) : Pv H g n sb w (W.setCell ⟨sb, 0, none⟩ (.int .i64 z)) d (s + 1) := by
  subst hz
  refine ⟨X.keep h.holds (Below.heap_setCell _ _ _ _ (fun e => ?_)), h.size, ?_, h.old, h.new, h.kp.setCell (p := ⟨sb, 0, none⟩) h.new _⟩
  · have := h.old; have := h.new; simp only at e; omega
  · have := heap_setCell_same W sb 0 _ 3 (.int .i64 ((s + 1 : Nat) : Int)) h.cell
    simpa using this
theorem order2_rng {lt : α → α → Bool} {d : Array α} {a b s x y s' : Nat} (h : order2 lt d a b s = (x, y, s')) : ((x = a ∧ y = b) ∨ (x = b ∧ y = a)) ∧ s ≤ s' ∧ s' ≤ s + 1 := by
  unfold order2 at h
  split at h <;> (injection h with h1 h2; injection h2 with h2 h3; subst h1 h2 h3)
  · exact ⟨.inr ⟨rfl, rfl⟩, by omega, by omega⟩
  · exact ⟨.inl ⟨rfl, rfl⟩, by omega, by omega⟩
theorem order2_any (X : Srt S lt n g H) (hn : n ≤ 1099511627776) {sb s : Nat} {w W : World} {d : Array α} (h : Pv H g n sb w W d s) (hs : s ≤ 1000) (za zb : Int) (a b : Nat) (hza : za = a) (hzb : zb = b) (ha : a < n) (hb : b < n) (x y s' : Nat) (ho : order2 lt d a b s = (x, y, s')) :
    Calls Tryz.prog 181 #[.iface 171 S, .int .i64 za, .int .i64 zb, .pointer (some ⟨sb, 0, none⟩)] W fun e w' => e = .returned (.tuple #[.int .i64 (x : Int), .int .i64 (y : Int)]) ∧ Pv H g n sb w w' d s' := by
  subst hza hzb
  have mS : ∀ (w : World), (method 350 171 S "Less").run Tryz.prog w = .ok (203, S) w := fun w => by kernel_rfl
  have cS := less_calls S
  obtain ⟨q, hq⟩ : ∃ q, lt d[b]! d[a]! = q := ⟨_, rfl⟩
  have k1 := h.lessI X (b : Int) (a : Int) b a rfl rfl hb ha q hq
  unfold order2 at ho
  rw [hq] at ho
  clear h hq
  go_enter Tryz.func181, Tryz.ntmps181
  cases q with
  | true =>
    simp at ho
    obtain ⟨rfl, rfl, rfl⟩ := ho
    go_wp2_with (go_at_call 203; (with_reducible refine k1.mono ?_); rintro e w1 ⟨rfl, hp⟩
                 have c1 : w1.cell? ⟨sb, 0, none⟩ = some (.int .i64 (s : Int)) := by rw [cell_of_row _ _ _ _ _ _ hp.cell]; rfl
                 have f1 : w1.frozen? ⟨sb, 0, none⟩ = false := frozen_of_row _ _ _ _ _ hp.cell)
    go_ret2
    exact ⟨rfl, hp.up X _ (by simp)⟩
  | false =>
    simp at ho
    obtain ⟨rfl, rfl, rfl⟩ := ho
    go_wp2_with (go_at_call 203; (with_reducible refine k1.mono ?_); rintro e w1 ⟨rfl, hp⟩)
    go_ret2
    exact ⟨rfl, hp⟩
theorem median_rng {lt : α → α → Bool} {d : Array α} {a b c s x s' : Nat} (h : median lt d a b c s = (x, s')) : (x = a ∨ x = b ∨ x = c) ∧ s ≤ s' ∧ s' ≤ s + 3 := by
  unfold median at h
  simp only at h
  obtain ⟨x1, y1, s1, e1⟩ : ∃ x y t, order2 lt d a b s = (x, y, t) := ⟨_, _, _, rfl⟩
  rw [e1] at h
  obtain ⟨x2, y2, s2, e2⟩ : ∃ x y t, order2 lt d y1 c s1 = (x, y, t) := ⟨_, _, _, rfl⟩
  rw [e2] at h
  obtain ⟨x3, y3, s3, e3⟩ : ∃ x y t, order2 lt d x1 x2 s2 = (x, y, t) := ⟨_, _, _, rfl⟩
  rw [e3] at h
  have r1 := order2_rng e1; have r2 := order2_rng e2; have r3 := order2_rng e3
  injection h with h1 h2
  simp only at h1 h2
  omega
theorem median_any (X : Srt S lt n g H) (hn : n ≤ 1099511627776) {sb s : Nat} {w W : World} {d : Array α} (h : Pv H g n sb w W d s) (hs : s ≤ 900) (za zb zc : Int) (a b c : Nat) (hza : za = a) (hzb : zb = b) (hzc : zc = c) (ha : a < n) (hb : b < n) (hc : c < n) (x s' : Nat) (ho : median lt d a b c s = (x, s')) :
    Calls Tryz.prog 178 #[.iface 171 S, .int .i64 za, .int .i64 zb, .int .i64 zc, .pointer (some ⟨sb, 0, none⟩)] W fun e w' => e = .returned (.int .i64 (x : Int)) ∧ Pv H g n sb w w' d s' := by
  subst hza hzb hzc
  unfold median at ho
  simp only at ho
  obtain ⟨x1, y1, s1, e1⟩ : ∃ x y t, order2 lt d a b s = (x, y, t) := ⟨_, _, _, rfl⟩
  rw [e1] at ho
  obtain ⟨x2, y2, s2, e2⟩ : ∃ x y t, order2 lt d y1 c s1 = (x, y, t) := ⟨_, _, _, rfl⟩
  rw [e2] at ho
  obtain ⟨x3, y3, s3, e3⟩ : ∃ x y t, order2 lt d x1 x2 s2 = (x, y, t) := ⟨_, _, _, rfl⟩
  rw [e3] at ho
  have r1 := order2_rng e1; have r2 := order2_rng e2; have r3 := order2_rng e3
  injection ho with h1 h2
  simp only at h1 h2
  subst h1 h2
  have k1 := order2_any X hn h (by omega) (a : Int) (b : Int) a b rfl rfl ha hb x1 y1 s1 e1
  have k2 := fun W (h : Pv H g n sb w W d s1) => order2_any X hn h (by omega) (y1 : Int) (c : Int) y1 c rfl rfl (by omega) hc x2 y2 s2 e2
  have k3 := fun W (h : Pv H g n sb w W d s2) => order2_any X hn h (by omega) (x1 : Int) (x2 : Int) x1 x2 rfl rfl (by omega) (by omega) x3 y3 s3 e3
  clear e1 e2 e3 r1 r2 r3 h
  go_enter Tryz.func178, Tryz.ntmps178
  go_wp2_with (first
    | (go_at_call 181; (with_reducible refine k1.mono ?_); rintro e w1 ⟨rfl, hp1⟩)
    | (go_at_call 181; (with_reducible refine (k2 _ hp1).mono ?_); rintro e w2 ⟨rfl, hp2⟩)
    | (go_at_call 181; (with_reducible refine (k3 _ hp2).mono ?_); rintro e w3 ⟨rfl, hp3⟩))
  go_ret
  exact ⟨rfl, hp3⟩
theorem adjacent_any (X : Srt S lt n g H) (hn : n ≤ 1099511627776) {sb s : Nat} {w W : World} {d : Array α} (h : Pv H g n sb w W d s) (hs : s ≤ 900) (za : Int) (a : Nat) (hza : za = a) (h1 : 1 ≤ a) (ha : a + 1 < n) (x s' : Nat) (ho : medianAdjacent lt d a s = (x, s')) :
    Calls Tryz.prog 177 #[.iface 171 S, .int .i64 za, .pointer (some ⟨sb, 0, none⟩)] W fun e w' => e = .returned (.int .i64 (x : Int)) ∧ Pv H g n sb w w' d s' := by
  subst hza
  unfold medianAdjacent at ho
  have k1 := median_any X hn h hs ((a : Int) - 1) (a : Int) ((a : Int) + 1) (a - 1) a (a + 1) (by omega) rfl (by omega) (by omega) (by omega) ha x s' ho
  clear ho h
  go_enter Tryz.func177, Tryz.ntmps177
  go_wp2_with (go_at_call 178; (with_reducible refine k1.mono ?_); rintro e w1 ⟨rfl, hp1⟩)
  go_ret
  exact ⟨rfl, hp1⟩
end
end
section
open Go.RowKit
open Go.Sort (swp order2 median medianAdjacent choosePivot Hint)
set_option maxRecDepth 100000
set_option maxHeartbeats 4000000
set_option linter.unusedVariables false
section
variable {α : Type} [Inhabited α] {S : Value} {lt : α → α → Bool} {n g : Nat} {H : World → Array α → Prop}
def hintI : Hint → Int
  | .unknown => 0
  | .increasing => 1
  | .decreasing => 2
theorem adjacent_rng {lt : α → α → Bool} {d : Array α} {a s x s' : Nat} (h : medianAdjacent lt d a s = (x, s')) : (x = a - 1 ∨ x = a ∨ x = a + 1) ∧ s ≤ s' ∧ s' ≤ s + 3 := median_rng h
/-- the end of choosePivot -/
theorem hint_of (s : Nat) : hintI (if s = 0 then .increasing else if s = 12 then .decreasing else .unknown) = if s = 0 then 1 else if s = 12 then 2 else 0 := by
  split
  · rfl
  · split <;> rfl
theorem pivot_small (X : Srt S lt n g H) (hn : n ≤ 1099511627776) (d : Array α) (a b : Nat) (hab : a + 8 ≤ b) (hl : b < a + 50) (hb : b ≤ n) (w : World) (h : H w d) (hd : d.size = n) (p : Nat) (hh : Hint) (ho : choosePivot lt d a b = (p, hh)) :
    Calls Tryz.prog 163 #[.iface 171 S, .int .i64 (a : Int), .int .i64 (b : Int)] w fun e w' => e = .returned (.tuple #[.int .i64 (p : Int), .int .i64 (hintI hh)]) ∧ St H g n w w' d := by
  obtain ⟨l, hl1⟩ : ∃ l, l = b - a := ⟨_, rfl⟩
  obtain ⟨m, hm⟩ : ∃ m, m = l / 4 := ⟨_, rfl⟩
  obtain ⟨x, s, hms⟩ : ∃ x s, median lt d (a + m * 1) (a + m * 2) (a + m * 3) 0 = (x, s) := ⟨_, _, rfl⟩
  have e0 : (p, hh) = (x, if s = 0 then .increasing else if s = 12 then .decreasing else .unknown) := by
    rw [← ho]
    unfold choosePivot
    simp only
    rw [if_pos (by omega), if_neg (by omega), ← hl1, ← hm, hms]
  injection e0 with e0 e1
  subst e0
  have eh : hintI hh = if s = 0 then 1 else if s = 12 then 2 else 0 := by rw [e1, hint_of]
  obtain ⟨z, hz⟩ : ∃ z, z = hintI hh := ⟨_, rfl⟩
  rw [← hz]
  have HZ := Lib.hid (hz.trans eh)
  clear hz
  have pv0 : Pv H g n w.heap.size w (w.alloc (.cells #[.int .i64 0] 3)) d 0 := ⟨X.keep h (((Below.refl _ _).alloc (Nat.le_refl _) _).block g (X.dom h)), hd, heap_alloc_new _ _, X.dom h, Nat.le_refl _, (Below.refl _ _).alloc (Nat.le_refl _) _⟩
  have k1 := median_any X hn pv0 (by omega) ((a : Int) + (m : Int)) ((a : Int) + (m : Int) * 2) ((a : Int) + (m : Int) * 3) (a + m * 1) (a + m * 2) (a + m * 3) (by omega) (by omega) (by omega) (by omega) (by omega) (by omega) p s hms
  have q1 : (b : Int) - a = l := by omega
  have q2 : (l : Int) / 4 = m := by omega
  have q3 : 8 ≤ l := by omega
  have q4 : l < 50 := by omega
  have q5 : a + m * 3 < n := by omega
  clear pv0 hms eh e1 ho hl1 hm h hd
  go_enter Tryz.func163, Tryz.ntmps163
  go_upto_region 12 with (go_at_call 178; (with_reducible refine k1.mono ?_); rintro e w1 ⟨rfl, hp⟩)
  have c1 : w1.cell? ⟨w.heap.size, 0, none⟩ = some (.int .i64 (s : Int)) := by rw [cell_of_row _ _ _ _ _ _ hp.cell]; rfl
  have fin : St H g n w w1 d := ⟨hp.holds, hp.size, Kp.ofBelow hp.kp⟩
  clear hp k1
  by_cases s0 : s = 0
  · subst s0
    have z0 := HZ.out
    rw [if_pos rfl] at z0
    have ZZ := Lib.hid z0
    clear HZ z0
    go_wp2
    go_ret2
    exact ⟨by rw [ZZ.out]; rfl, fin⟩
  · have n0 : ¬ (s : Int) = 0 := by omega
    have m0 : ((s : Int) == 0) = false := beq_eq_false_iff_ne.2 n0
    by_cases s12 : s = 12
    · subst s12
      have z0 := HZ.out
      rw [if_neg s0, if_pos rfl] at z0
      have ZZ := Lib.hid z0
      clear HZ s0 n0 m0 z0
      go_wp2
      go_ret2
      exact ⟨by rw [ZZ.out]; rfl, fin⟩
    · have n12 : ¬ (s : Int) = 12 := by omega
      have m12 : ((s : Int) == 12) = false := beq_eq_false_iff_ne.2 n12
      have z0 := HZ.out
      rw [if_neg s0, if_neg s12] at z0
      have ZZ := Lib.hid z0
      clear HZ s0 s12 z0
      go_wp2
      go_ret2
      exact ⟨by rw [ZZ.out]; rfl, fin⟩
theorem pivot_big (X : Srt S lt n g H) (hn : n ≤ 1099511627776) (d : Array α) (a b : Nat) (hab : a + 50 ≤ b) (hb : b ≤ n) (w : World) (h : H w d) (hd : d.size = n) (p : Nat) (hh : Hint) (ho : choosePivot lt d a b = (p, hh)) :
    Calls Tryz.prog 163 #[.iface 171 S, .int .i64 (a : Int), .int .i64 (b : Int)] w fun e w' => e = .returned (.tuple #[.int .i64 (p : Int), .int .i64 (hintI hh)]) ∧ St H g n w w' d := by
  obtain ⟨l, hl1⟩ : ∃ l, l = b - a := ⟨_, rfl⟩
  obtain ⟨m, hm⟩ : ∃ m, m = l / 4 := ⟨_, rfl⟩
  obtain ⟨xi, si, hi⟩ : ∃ x s, medianAdjacent lt d (a + m * 1) 0 = (x, s) := ⟨_, _, rfl⟩
  obtain ⟨xj, sj, hj⟩ : ∃ x s, medianAdjacent lt d (a + m * 2) si = (x, s) := ⟨_, _, rfl⟩
  obtain ⟨xk, sk, hk⟩ : ∃ x s, medianAdjacent lt d (a + m * 3) sj = (x, s) := ⟨_, _, rfl⟩
  obtain ⟨x, s, hms⟩ : ∃ x s, median lt d xi xj xk sk = (x, s) := ⟨_, _, rfl⟩
  have e0 : (p, hh) = (x, if s = 0 then .increasing else if s = 12 then .decreasing else .unknown) := by
    rw [← ho]
    unfold choosePivot
    simp only
    rw [if_pos (by omega), if_pos (by omega), ← hl1, ← hm, hi, hj, hk, hms]
  injection e0 with e0 e1
  subst e0
  have eh : hintI hh = if s = 0 then 1 else if s = 12 then 2 else 0 := by rw [e1, hint_of]
  obtain ⟨z, hz⟩ : ∃ z, z = hintI hh := ⟨_, rfl⟩
  rw [← hz]
  have HZ := Lib.hid (hz.trans eh)
  clear hz
  have r1 := adjacent_rng hi; have r2 := adjacent_rng hj; have r3 := adjacent_rng hk
  have pv0 : Pv H g n w.heap.size w (w.alloc (.cells #[.int .i64 0] 3)) d 0 := ⟨X.keep h (((Below.refl _ _).alloc (Nat.le_refl _) _).block g (X.dom h)), hd, heap_alloc_new _ _, X.dom h, Nat.le_refl _, (Below.refl _ _).alloc (Nat.le_refl _) _⟩
  have k1 := adjacent_any X hn pv0 (by omega) ((a : Int) + (m : Int)) (a + m * 1) (by omega) (by omega) (by omega) xi si hi
  have k2 := fun W (hp : Pv H g n w.heap.size w W d si) => adjacent_any X hn hp (by omega) ((a : Int) + (m : Int) * 2) (a + m * 2) (by omega) (by omega) (by omega) xj sj hj
  have k3 := fun W (hp : Pv H g n w.heap.size w W d sj) => adjacent_any X hn hp (by omega) ((a : Int) + (m : Int) * 3) (a + m * 3) (by omega) (by omega) (by omega) xk sk hk
  have k4 := fun W (hp : Pv H g n w.heap.size w W d sk) => median_any X hn hp (by omega) (xi : Int) (xj : Int) (xk : Int) xi xj xk rfl rfl rfl (by omega) (by omega) (by omega) p s hms
  have q1 : (b : Int) - a = l := by omega
  have q2 : (l : Int) / 4 = m := by omega
  have q3 : 8 ≤ l := by omega
  have q4 : 50 ≤ l := by omega
  have q5 : a + m * 3 < n := by omega
  clear pv0 hms eh e1 ho hl1 hm h hd hi hj hk r1 r2 r3
  go_enter Tryz.func163, Tryz.ntmps163
  go_upto_region 12 with (first
    | (go_at_call 177; (with_reducible refine k1.mono ?_); rintro e w1 ⟨rfl, hp1⟩)
    | (go_at_call 177; (with_reducible refine (k2 _ hp1).mono ?_); rintro e w2 ⟨rfl, hp2⟩)
    | (go_at_call 177; (with_reducible refine (k3 _ hp2).mono ?_); rintro e w3 ⟨rfl, hp3⟩)
    | (go_at_call 178; (with_reducible refine (k4 _ hp3).mono ?_); rintro e w4 ⟨rfl, hp⟩))
  have c1 : w4.cell? ⟨w.heap.size, 0, none⟩ = some (.int .i64 (s : Int)) := by rw [cell_of_row _ _ _ _ _ _ hp.cell]; rfl
  have fin : St H g n w w4 d := ⟨hp.holds, hp.size, Kp.ofBelow hp.kp⟩
  clear hp hp1 hp2 hp3 k1 k2 k3 k4
  by_cases s0 : s = 0
  · subst s0
    have z0 := HZ.out
    rw [if_pos rfl] at z0
    have ZZ := Lib.hid z0
    clear HZ z0
    go_wp2
    go_ret2
    exact ⟨by rw [ZZ.out]; rfl, fin⟩
  · have n0 : ¬ (s : Int) = 0 := by omega
    have m0 : ((s : Int) == 0) = false := beq_eq_false_iff_ne.2 n0
    by_cases s12 : s = 12
    · subst s12
      have z0 := HZ.out
      rw [if_neg s0, if_pos rfl] at z0
      have ZZ := Lib.hid z0
      clear HZ s0 n0 m0 z0
      go_wp2
      go_ret2
      exact ⟨by rw [ZZ.out]; rfl, fin⟩
    · have n12 : ¬ (s : Int) = 12 := by omega
      have m12 : ((s : Int) == 12) = false := beq_eq_false_iff_ne.2 n12
      have z0 := HZ.out
      rw [if_neg s0, if_neg s12] at z0
      have ZZ := Lib.hid z0
      clear HZ s0 s12 z0
      go_wp2
      go_ret2
      exact ⟨by rw [ZZ.out]; rfl, fin⟩
theorem pivot_any (X : Srt S lt n g H) (hn : n ≤ 1099511627776) (d : Array α) (a b : Nat) (hab : a + 8 ≤ b) (hb : b ≤ n) (w : World) (h : H w d) (hd : d.size = n) (p : Nat) (hh : Hint) (ho : choosePivot lt d a b = (p, hh)) :
    Calls Tryz.prog 163 #[.iface 171 S, .int .i64 (a : Int), .int .i64 (b : Int)] w fun e w' => e = .returned (.tuple #[.int .i64 (p : Int), .int .i64 (hintI hh)]) ∧ St H g n w w' d := by
  by_cases hl : b < a + 50
  · exact pivot_small X hn d a b hab hl hb w h hd p hh ho
  · exact pivot_big X hn d a b (by omega) hb w h hd p hh ho
end
end
section
open Go.RowKit
open Go.Sort (bitsLen xorNextN xorNext_toNat xorNextN_lt bitsLen_le_iff)
set_option maxRecDepth 1000000
set_option maxHeartbeats 4000000
set_option linter.unusedVariables false
/-- a byte of a constant text -/
theorem wpList_tab {P : Program} {w : World} {ops : Array Oper} {rest : List Oper} {o : Oper} {a : Act} {Q : Exit → Act → World → Prop} (hgd : o.guard = none) (ty : TypeId) (s : ByteArray) (x : Operand) (ho : o.op = .index ty (.const (.string s)) x)
    (k : Nat) (hx : a.eval x = .int .u8 (k : Int)) (hty : P.underlying ty = some .string) (c : UInt8) (v : Nat) (hv : c.toNat = v) (hc : s[k]? = some c)
    (h : wpList P ops Q rest (a.put o.dst (.int .u8 (v : Int))) w) : wpList P ops Q (o :: rest) a w := by
  subst hv
  refine wpList_plain hgd fun K hK => ?_
  unfold Oper.wp execOp
  have : (Instr.index ty (.string s) (.int .u8 (k : Int))).run P w = .ok (.int .u8 (c.toNat : Int)) w := by simp [Instr.index, asIntOf, run_underlying hty, hc]
  have hcs : a.eval (.const (.string s)) = .string s := rfl
  simp only [ho, hx, hcs, this, Sem.run_bind, Sem.run_pure, Result.andThen_ok]
  exact hK _ _ h
theorem tab_all (s : ByteArray) (h : ∀ k < 256, s[k]? = some (UInt8.ofNat (bitsLen k))) (x : Nat) (hx : x < 256) : s[x]? = some (UInt8.ofNat (bitsLen x)) := h x hx
theorem bitsLen_256 (x : Nat) (hx : x < 256) : bitsLen x ≤ 8 := (bitsLen_le_iff x 8).2 (by omega)
theorem len64_any (x : Nat) (hx : x < 256) (w : World) : Calls Tryz.prog 159 #[.int .u64 (x : Int)] w fun e w' => e = .returned (.int .i64 (bitsLen x : Nat)) ∧ w' = w := by
  have hb := bitsLen_256 x hx
  have hv : (UInt8.ofNat (bitsLen x)).toNat = bitsLen x := by simp; omega
  have HV := Lib.hid hv
  obtain ⟨v, hvv⟩ : ∃ v, v = bitsLen x := ⟨_, rfl⟩
  have HB : v ≤ 8 := by omega
  have HVV := Lib.hid hvv
  obtain ⟨z, hz⟩ : ∃ z : Int, z = (x : Int) := ⟨_, rfl⟩
  have g1 : decide (4294967296 ≤ z) = false := by rw [hz]; exact decide_eq_false (by omega)
  have g2 : decide (65536 ≤ z) = false := by rw [hz]; exact decide_eq_false (by omega)
  have g3 : decide (256 ≤ z) = false := by rw [hz]; exact decide_eq_false (by omega)
  have g4 : IntKind.u8.wrap z = z := by rw [hz, IntKind.wrap_u8]; omega
  have HX := Lib.hid hx
  rw [← hz]
  have HZ := Lib.hid hz
  clear hvv hv hb hz hx
  rw [← HVV.out]
  go_enter Tryz.func159, Tryz.ntmps159
  go_upto_region 10 with (fail)
  go_wp2_with (refine wpList_tab rfl 9 _ (.tmp 21) rfl x (congrArg (Value.int IntKind.u8) HZ.out) Tryz.underlying9 (UInt8.ofNat (bitsLen x)) v (HV.out.trans HVV.out.symm) (tab_all _ (by decide +kernel) x HX.out) ?_)
  go_ret
  exact ⟨rfl, rfl⟩
theorem len_any (x : Nat) (hx : x < 256) (w : World) : Calls Tryz.prog 140 #[.int .u64 (x : Int)] w fun e w' => e = .returned (.int .i64 (bitsLen x : Nat)) ∧ w' = w := by
  have k := len64_any x hx w
  go_enter Tryz.func140, Tryz.ntmps140
  go_wp2_with (go_at_call 159; (with_reducible refine k.mono ?_); rintro e w1 ⟨rfl, rfl⟩)
  go_ret
  exact ⟨rfl, rfl⟩
theorem two_pow (v : Nat) (hv : v ≤ 8) : IntKind.u64.wrap ((2 : Int) ^ v) = ((1 <<< v : Nat) : Int) := by
  have : ∀ v < 9, IntKind.u64.wrap ((2 : Int) ^ v) = ((1 <<< v : Nat) : Int) := by decide +kernel
  exact this v (by omega)
theorem next_any (x : Nat) (hx : x < 256) (w : World) : Calls Tryz.prog 175 #[.int .i64 (x : Int)] w fun e w' => e = .returned (.int .u64 ((1 <<< bitsLen x : Nat) : Int)) ∧ w' = w := by
  have k := len_any x hx w
  have hb := bitsLen_256 x hx
  have hp := two_pow _ hb
  obtain ⟨v, hvv⟩ : ∃ v, v = bitsLen x := ⟨_, rfl⟩
  rw [← hvv] at k hb hp ⊢
  clear hvv
  have wr : IntKind.u64.wrap (x : Int) = x := by rw [IntKind.wrap_u64]; omega
  go_enter Tryz.func175, Tryz.ntmps175
  go_wp2_with (go_at_call 140; (with_reducible refine k.mono ?_); rintro e w1 ⟨rfl, rfl⟩)
  go_ret
  exact ⟨rfl, rfl⟩
theorem xor_eq (a b : Nat) (ha : a < 18446744073709551616) (hb : b < 18446744073709551616) (y : Int) (hy : y = (b : Int)) : bits .xor .u64 (a : Int) y = ((a ^^^ b : Nat) : Int) := by
  subst hy; exact bits_xor_u64_nat a b ha hb
theorem cell_put (w : World) (rb : Nat) (X A : Int) (h : w.heap[rb]? = some (.cells #[.int .u64 X] 223 (0, 0))) :
    (w.setCell ⟨rb, 0, none⟩ (.int .u64 A)).drew.heap[rb]? = some (.cells #[.int .u64 A] 223 (0, 0)) ∧ Kp (fun k => k = rb) w (w.setCell ⟨rb, 0, none⟩ (.int .u64 A)).drew ∧ w.drew.cell? ⟨rb, 0, none⟩ = some (.int .u64 X) ∧ w.drew.frozen? ⟨rb, 0, none⟩ = false := by
  have h' : w.drew.heap[rb]? = some (.cells #[.int .u64 X] 223 (0, 0)) := h
  refine ⟨?_, ((Kp.refl (fun k => k = rb) w).setCell (p := ⟨rb, 0, none⟩) (.inl rfl) _).drew, by rw [cell_of_row w.drew _ _ _ _ _ h]; rfl, frozen_of_row w.drew _ _ _ _ h⟩
  have := heap_setCell_same w rb 0 _ 223 (.int .u64 A) h
  exact this.trans (by simp)
/-- Next: the cell holds the next number, which is handed back -/
theorem next_xor (rb X : Nat) (hX : X < 18446744073709551616) (w : World) (h : w.heap[rb]? = some (.cells #[.int .u64 (X : Int)] 223 (0, 0))) :
    Calls Tryz.prog 176 #[.pointer (some ⟨rb, 0, none⟩)] w fun e w' => e = .returned (.int .u64 (xorNextN X : Nat)) ∧ w'.heap[rb]? = some (.cells #[.int .u64 (xorNextN X : Nat)] 223 (0, 0)) ∧ Kp (fun k => k = rb) w w' := by
  obtain ⟨A, hA⟩ : ∃ A : Nat, A = X ^^^ (X * 8192 % 18446744073709551616) := ⟨_, rfl⟩
  obtain ⟨B, hB⟩ : ∃ B : Nat, B = A ^^^ (A / 128) := ⟨_, rfl⟩
  obtain ⟨C, hC⟩ : ∃ C : Nat, C = B ^^^ (B * 131072 % 18446744073709551616) := ⟨_, rfl⟩
  have lA : A < 18446744073709551616 := by rw [hA]; exact Nat.xor_lt_two_pow (n := 64) (by omega) (by omega)
  have lB : B < 18446744073709551616 := by rw [hB]; exact Nat.xor_lt_two_pow (n := 64) (by omega) (by omega)
  have hv : xorNextN X = C := by unfold xorNextN; simp only []; rw [← hA, ← hB, ← hC]
  rw [hv]
  have e1 : bits .xor .u64 (X : Int) (IntKind.u64.wrap ((X : Int) * 8192)) = (A : Int) := by
    rw [hA]; exact xor_eq _ _ hX (by omega) _ (by rw [IntKind.wrap_u64]; omega)
  have e2 : bits .xor .u64 (A : Int) ((A : Int) / 128) = (B : Int) := by
    rw [hB]; exact xor_eq _ _ lA (by omega) _ (by omega)
  have e3 : bits .xor .u64 (B : Int) (IntKind.u64.wrap ((B : Int) * 131072)) = (C : Int) := by
    rw [hC]; exact xor_eq _ _ lB (by omega) _ (by rw [IntKind.wrap_u64]; omega)
  clear hA hB hC hv lA lB hX
  obtain ⟨h1, k1, c0, f0⟩ := cell_put w rb (X : Int) (A : Int) h
  clear h
  have H1 := Lib.hid h1
  clear h1
  go_enter Tryz.func176, Tryz.ntmps176
  go_upto_region 1 with (fail)
  go_still_tail 9, (by kernel_rfl)
  change wpList _ _ _ _ _ w.drew
  go_upto_region 2 with (fail)
  generalize (w.setCell ⟨rb, 0, none⟩ (.int .u64 (A : Int))).drew = w1 at H1 k1 ⊢
  clear c0 f0
  obtain ⟨h2, k2, c0, f0⟩ := cell_put w1 rb (A : Int) (B : Int) H1.out
  have H2 := Lib.hid h2
  clear h2 H1
  go_still_tail 9, (by kernel_rfl)
  change wpList _ _ _ _ _ w1.drew
  go_upto_region 3 with (fail)
  generalize (w1.setCell ⟨rb, 0, none⟩ (.int .u64 (B : Int))).drew = w2 at H2 k2 ⊢
  clear c0 f0
  obtain ⟨h3, k3, c0, f0⟩ := cell_put w2 rb (B : Int) (C : Int) H2.out
  have H3 := Lib.hid h3
  clear h3 H2
  go_still_tail 9, (by kernel_rfl)
  change wpList _ _ _ _ _ w2.drew
  go_upto_region 4 with (fail)
  generalize (w2.setCell ⟨rb, 0, none⟩ (.int .u64 (C : Int))).drew = w3 at H3 k3 ⊢
  clear c0 f0
  have c0 : w3.cell? ⟨rb, 0, none⟩ = some (.int .u64 (C : Int)) := by rw [cell_of_row w3 _ _ _ _ _ H3.out]; rfl
  go_wp2
  go_ret
  exact ⟨rfl, H3.out, Kp.trans (Kp.trans k1 k2) k3⟩
end
end Go.Proofs.YtcedfapcpmedfaaGreatDoor
