/- The method id of lines: idI. Condition: a text of at most 2^30 bytes.
   A commit on memory; whether it may not be. Conditions: twenty bytes each, fewer than 256 parents, texts of at most 2^30 bytes.
   object.EncodeCommit: encC. Conditions: twenty bytes each, fewer than 256 parents, texts of at most a million bytes.
   A store of one cell into a block that is known: the world behind it by its parts. No condition.
   Append of one name to a row of names, in any region. Conditions: twenty bytes, at most 100000 names.
   object.DecodeCommit: decC. Conditions: at most 12000 bytes, or more than 16384 and at most 2^30; what the library's variables hold.
   object.Check, Edges, Parents at commits and blobs. Conditions: at most 12000 bytes (a commit), at most 2^30 (a blob); what the library's variables hold.
   object.Date: dateI. Conditions: twenty bytes, a committer of at most a million bytes; what the library's variables hold.
   known of the objects' laws: the examples answer true. Condition: what the library's variables hold. -/
import Derived.Test.YtcedfapcpmedfaaGreatDoorKg
import Derived.Test.YtcedfapcpmedfaaGreatDoorKf
import Derived.Test.YtcedfapcpmedfaaGreatDoorKe
import Derived.Deep.RegionHeld3
import Derived.Deep.RegionLaw
namespace Go.Proofs.YtcedfapcpmedfaaGreatDoor
section
open Go.RowKit
set_option maxRecDepth 100000
set_option maxHeartbeats 1000000
set_option linter.unusedVariables false
theorem kp_setRowI {S : Nat → Prop} {a w : World} (h : Kp S a w) (b : Nat) (hb : a.heap.size ≤ b) (c : Array Value) : Kp S a (w.setRow b c) :=
  ⟨h.os, h.tape, h.output, by simpa using h.size, fun i hi hs => (setRow_other _ _ _ _ (by omega)).trans (h.block i hi hs)⟩
theorem parse_err (v : List UInt8) : (parseI v).2 = 0 ∨ (parseI v).2 = 2 := by
  unfold parseI
  split
  · exact .inl rfl
  · exact .inr rfl
theorem oparse_any (v : List UInt8) (hv : v.length ≤ 1073741824) (w : World) :
    Calls Tryz.prog 109 #[.string (bstr v)] w fun e w' => e = .returned (.tuple #[idv (parseI v).1, .int .i64 ((parseI v).2 : Nat)]) ∧ Below w.heap.size w w' := by
  have := parse_any (bstr v) w (by rw [bstr_size]; omega)
  simpa using this
theorem idl_any (g : Nat) (l : Ln) (v : List UInt8) (hv : v.length ≤ 1073741824) (w : World) (hr : LRow w g l) :
    Calls Tryz.prog 73 #[.pointer (some ⟨g, 0, none⟩), .string (bstr v)] w fun e w' => e = .returned (idv (idI l v).1) ∧ LRow w' g (idI l v).2 ∧ Kp (fun k => k = g) w w' := by
  obtain ⟨s, bad⟩ := l
  have hgl : g < w.heap.size := (Array.getElem?_eq_some_iff.1 hr).1
  obtain ⟨W0, hW0⟩ : ∃ W0, W0 = w.alloc (.cells (bvs zs20).toArray 27) := ⟨_, rfl⟩
  have hb0 : Below w.heap.size w W0 := by rw [hW0]; exact (Below.refl _ _).alloc (Nat.le_refl _) _
  have r0 : W0.heap[w.heap.size]? = some (.cells (bvs zs20).toArray 27 (0, 0)) := by rw [hW0]; exact heap_alloc_new _ _
  have kp := oparse_any v hv W0
  obtain ⟨y, hy⟩ : ∃ y, y = (parseI v).1 := ⟨_, rfl⟩
  obtain ⟨er, her⟩ : ∃ er, er = (parseI v).2 := ⟨_, rfl⟩
  have hyl : y.length = 20 := by rw [hy]; exact parseI_len v
  have HI : Hid (idI ⟨s, bad⟩ v = (y, ⟨s, bad || !(decide (er = 0))⟩)) := Lib.hid (by unfold idI; rw [hy, her])
  have hE : er = 0 ∨ er = 2 := by rw [her]; exact parse_err v
  have zx := info23 y hyl
  have hz20 : (bvs zs20).toArray.size = (bvs y).toArray.size := by rw [show (bvs y).toArray.size = 20 by simp [hyl]]; rfl
  rw [← hy, ← her] at kp
  have HW0 := Lib.hid hW0; have HB0 := Lib.hid hb0; have R0 := Lib.hid r0; have HR := Lib.hid hr; have ZX := Lib.hid zx; have HZ := Lib.hid hz20; have HGL := Lib.hid hgl
  clear hW0 hb0 r0 hr zx hz20 hy her hyl hgl hv
  rw [HI.out]
  clear HI
  rcases hE with rfl | rfl <;> cases bad
  all_goals
    go_enter Tryz.func73, Tryz.ntmps73
    go_upto_region 1 with fail
    simp only [zlit]
    rw [← HW0.out]
    go_upto_region 2 with (first
      | (go_at_call 109; (with_reducible refine kp.mono ?_); rintro e w1 ⟨rfl, hb1⟩
         have bb1 := Lib.hid (HB0.out.trans (hb1.mono HB0.out.size))
         have R1 := Lib.hid ((hb1.block _ (Array.getElem?_eq_some_iff.1 R0.out).1).trans R0.out))
      | (refine wpList_store_row rfl 27 (.tmp 5) (.tmp 10) rfl w1.heap.size (bvs y).toArray rfl rfl 27 (bvs zs20).toArray (heap_alloc_new _ _) ZX.out HZ.out (one_bvs _) ?_))
    obtain ⟨r2, b2⟩ := new_set w1 27 (bvs zs20).toArray (bvs y).toArray
    obtain ⟨W2, hW2⟩ : ∃ W2, W2 = (w1.alloc (.cells (bvs zs20).toArray 27)).setRow w1.heap.size (bvs y).toArray := ⟨_, rfl⟩
    rw [← hW2] at r2 b2
    simp only [zlit]
    rw [← hW2]
    have bb2 := bb1.out.trans (b2.mono bb1.out.size)
    have rl := (bb2.block g HGL.out).trans HR.out
    have c1 := cell_of_row W2 g 1 _ _ _ rl
    have f1 : W2.frozen? ⟨g, 1, none⟩ = false := frozen_of_row W2 g 1 _ _ rl
    have R2 := Lib.hid r2
    have R02 := Lib.hid ((b2.block _ (Array.getElem?_eq_some_iff.1 R1.out).1).trans R1.out)
    have RL := Lib.hid rl; have BB2 := Lib.hid bb2
    clear r2 b2 hW2 bb2 rl hb1
    go_wp2_with (first
      | (refine wpList_load_row rfl 27 (.tmp 5) rfl w1.heap.size rfl 27 (bvs y).toArray (0, 0) _ ((heap_setCell_ne W2 _ _ _ (by simp; have := HGL.out; have := bb1.out.size; omega)).trans R2.out) Tryz.underlying27 rfl ZX.out ?_)
      | (refine wpList_store_row rfl 27 (.tmp 4) (.tmp 23) rfl w.heap.size (bvs y).toArray rfl rfl 27 (bvs zs20).toArray ((heap_setCell_ne W2 _ _ _ (by simp; have := HGL.out; omega)).trans R02.out) ZX.out HZ.out (one_bvs _) ?_))
    refine bodyPost_ret (results_cell_row rfl _ _ w.heap.size 27 (bvs y).toArray (0, 0) _ rfl (setRow_heap _ _ _ _ _ _ ((heap_setCell_ne W2 _ _ _ (by simp; have := HGL.out; omega)).trans R02.out)) Tryz.underlying27 rfl ZX.out) rfl ?_
    refine ⟨rfl, ?_, ?_⟩
    · exact (setRow_other _ _ _ _ (by have := HGL.out; omega)).trans (heap_setCell_same _ _ _ _ _ _ RL.out)
    · exact kp_setRowI ((Kp.ofBelow BB2.out).step (Kp.setCell (Kp.refl (fun k => k = g) _) (.inl rfl) _) (fun i _ h => h)) _ (Nat.le_refl _) _
end
section
open Go.RowKit
set_option maxRecDepth 100000
set_option maxHeartbeats 8000000
set_option linter.unusedVariables false
theorem nodup_le : ∀ (L l : List (List UInt8)), L.Nodup → (∀ x ∈ L, x ∈ l) → L.length ≤ l.length
  | [], l, _, _ => Nat.zero_le _
  | x :: L, l, hn, hs => by
    obtain ⟨h1, h2⟩ := List.nodup_cons.1 hn
    have hx := hs x (by simp)
    have ih := nodup_le L (l.erase x) h2 (fun y hy => (List.mem_erase_of_ne (fun e => h1 (by rw [← e]; exact hy))).2 (hs y (List.mem_cons_of_mem _ hy)))
    have := List.length_erase_of_mem hx
    have : 0 < l.length := List.length_pos_of_mem hx
    rw [List.length_cons]
    omega
theorem dup_short : ∀ l : List (List UInt8), ¬ l.Nodup → ∃ l' : List (List UInt8), l'.length < l.length ∧ ∀ x, x ∈ l → x ∈ l'
  | [], h => absurd List.nodup_nil h
  | x :: t, h => by
    by_cases hx : x ∈ t
    · exact ⟨t, by simp, fun y hy => by
        rcases List.mem_cons.1 hy with rfl | hy
        · exact hx
        · exact hy⟩
    · obtain ⟨t', h1, h2⟩ := dup_short t (fun e => h (List.nodup_cons.2 ⟨hx, e⟩))
      exact ⟨x :: t', by simpa using h1, fun y hy => by
        rcases List.mem_cons.1 hy with rfl | hy
        · simp
        · exact List.mem_cons_of_mem _ (h2 y hy)⟩
theorem ris_nodup {L : List (List UInt8)} (h : Ris L) : L.Nodup := by
  unfold List.Nodup
  refine List.Pairwise.imp ?_ h
  intro a b hab e
  subst e
  exact List.lt_irrefl _ (by simpa using hab)
/-- as many in order as there are: no name is there twice -/
theorem sorted_len {w w' : World} {l L : List (List UInt8)} {A : Option Addr} (h : Sorted w w' l A L) : L.length = l.length ↔ l.Nodup := by
  have hn := ris_nodup h.ris
  constructor
  · intro e
    by_cases hd : l.Nodup
    · exact hd
    · obtain ⟨l', h1, h2⟩ := dup_short l hd
      have := nodup_le L l' hn (fun x hx => h2 x ((h.mem x).1 hx))
      omega
  · intro hd
    have h1 := nodup_le l L hd (fun x hx => (h.mem x).2 hx)
    have := h.len
    omega
/-- a commit on memory: its tree, the row of its parents, three texts -/
structure Ck where
  tree : List UInt8
  par : Value
  author : List UInt8
  committer : List UInt8
  message : List UInt8
def ccell (k : Ck) : List Value := bvs k.tree ++ [k.par, .string (bstr k.author), .string (bstr k.committer), .string (bstr k.message)]
abbrev cv (k : Ck) : Value := .agg (ccell k).toArray
abbrev ck (c : Cm) (v : Value) : Ck := ⟨c.tree, v, c.author, c.committer, c.message⟩
theorem ccell_len {k : Ck} (h : k.tree.length = 20) : (ccell k).length = 24 := by simp [ccell, h]
theorem ccell_at {k : Ck} (h : k.tree.length = 20) : (ccell k)[20]? = some k.par ∧ (ccell k)[21]? = some (.string (bstr k.author)) ∧ (ccell k)[22]? = some (.string (bstr k.committer)) ∧ (ccell k)[23]? = some (.string (bstr k.message)) := by
  have hl : (bvs k.tree).length = 20 := by simp [h]
  unfold ccell
  refine ⟨?_, ?_, ?_, ?_⟩ <;> rw [List.getElem?_append_right (by rw [hl]; decide), hl] <;> rfl
theorem ck_at {w : World} {ad : Addr} {k : Ck} (h : Sl w (some ad) (ccell k)) {j : Nat} {v : Value} (hv : (ccell k)[j]? = some v) : w.cell? (ad.add j) = some v := by
  obtain ⟨ad', q, hc⟩ := h j v hv
  injection q with q
  subst q
  exact hc
theorem load_ck {w : World} {ad : Addr} {k : Ck} (h20 : k.tree.length = 20) (h : Sl w (some ad) (ccell k)) : (loadVar 45 ad).run Tryz.prog w = .ok (cv k) w := by
  have hl : (loadCells ad (ccell k).length).run Tryz.prog w = .ok (ccell k).toArray w :=
    run_loadCells_list (P := Tryz.prog) w ad (ccell k) (fun j v hv => by obtain ⟨ad', q, hc⟩ := h j v hv; injection q with q; subst q; exact hc)
  rw [ccell_len h20] at hl
  have hagg : (isAgg 45).run Tryz.prog w = .ok true w := by kernel_rfl
  simp [loadVar, Sem.run_bind, hagg, hl]
theorem wrong_any (c : Cm) (h20 : c.tree.length = 20) (hp : All20 c.parents) (hn : c.parents.length < 256) (ha : c.author.length ≤ 1073741824) (hc : c.committer.length ≤ 1073741824) (A : Option Addr) (cap : Nat) (h0 : A = none → cap = 0) (w : World) (hA : Sl w A (idc c.parents)) :
    Calls Tryz.prog 62 #[cv (ck c (.slice A c.parents.length cap))] w fun e w' => e = .returned (.bool (wrongC c)) ∧ Below w.heap.size w w' := by
  obtain ⟨k, hk⟩ : ∃ k, k = ck c (.slice A c.parents.length cap) := ⟨_, rfl⟩
  obtain ⟨W0, hW0⟩ : ∃ W0, W0 = w.alloc (.cells (ccell k).toArray 45) := ⟨_, rfl⟩
  have hb0 : Below w.heap.size w W0 := by rw [hW0]; exact (Below.refl _ _).alloc (Nat.le_refl _) _
  have S0 : Sl W0 (some ⟨w.heap.size, 0, none⟩) (ccell k) := by
    rw [hW0]
    exact Sl.of_block (heap_alloc_new _ _) (fun j v hj => by simpa using hj)
  have e20 : k.tree.length = 20 := by rw [hk]; exact h20
  obtain ⟨q1, q2, q3, q4⟩ := ccell_at e20
  have c1 : W0.cell? ⟨w.heap.size, 20, none⟩ = some (.slice A c.parents.length cap) := by have := ck_at S0 q1; rw [hk] at this; rwa [add_plain, Nat.zero_add] at this
  have c2 : W0.cell? ⟨w.heap.size, 21, none⟩ = some (.string (bstr c.author)) := by have := ck_at S0 q2; rw [hk] at this; rwa [add_plain, Nat.zero_add] at this
  have c3 : W0.cell? ⟨w.heap.size, 22, none⟩ = some (.string (bstr c.committer)) := by have := ck_at S0 q3; rw [hk] at this; rwa [add_plain, Nat.zero_add] at this
  have ks : ∀ w', Below W0.heap.size W0 w' → Calls Tryz.prog 88 #[.slice A c.parents.length cap] w' fun e w'' => ∃ A' m, e = .returned (.slice A' m m) ∧ (m = c.parents.length ↔ c.parents.Nodup) ∧ Below W0.heap.size W0 w'' := fun w' h => by
    refine (sort_all c.parents hp hn A cap w' ((hA.below hb0).below h) h0).mono ?_
    rintro e w'' ⟨A', L, rfl, hS⟩
    exact ⟨A', L.length, rfl, sorted_len hS, h.trans (hS.below.mono h.size)⟩
  have kt : ∀ (s : List UInt8), s.length ≤ 1073741824 → ∀ w', Calls Tryz.prog 106 #[.string (bstr s), .int .i64 200] w' fun e w'' => e = .returned (.bool (textI s 200)) ∧ w' = w'' := fun s hs w' => text_any s 200 w' hs (by omega)
  obtain ⟨n, hn'⟩ : ∃ n, n = c.parents.length := ⟨_, rfl⟩
  have hnb : n < 256 := by omega
  have hW : Hid (wrongC c = (!(decide c.parents.Nodup) || !(textI c.author 200) || !(textI c.committer 200))) := Lib.hid (by
    unfold wrongC
    rw [decide_eq_false (by omega), Bool.false_or])
  rw [← hn'] at c1 ks
  rw [show cv (ck c (.slice A c.parents.length cap)) = cv k by rw [hk]]
  obtain ⟨au, hau⟩ : ∃ au, au = c.author := ⟨_, rfl⟩
  obtain ⟨co, hco⟩ : ∃ co, co = c.committer := ⟨_, rfl⟩
  rw [← hau] at c2 hW ha
  rw [← hco] at c3 hW hc
  have ka := kt au ha
  have kc := kt co hc
  obtain ⟨ta, hta⟩ : ∃ ta, ta = textI au 200 := ⟨_, rfl⟩
  obtain ⟨tc, htc⟩ : ∃ tc, tc = textI co 200 := ⟨_, rfl⟩
  rw [← hta] at ka hW
  rw [← htc] at kc hW
  obtain ⟨nd, hnd⟩ : ∃ nd, nd = decide c.parents.Nodup := ⟨_, rfl⟩
  have ks2 : ∀ w', Below W0.heap.size W0 w' → Calls Tryz.prog 88 #[.slice A n cap] w' fun e w'' => ∃ A' m, e = .returned (.slice A' m m) ∧ (((m : Int) == (n : Int)) = nd ∧ (m == n) = nd ∧ ((m : Int) != (n : Int)) = !nd ∧ (m != n) = !nd) ∧ Below W0.heap.size W0 w'' := fun w' h => by
    refine (ks w' h).mono ?_
    rintro e w'' ⟨A', m, rfl, hm, hb⟩
    refine ⟨A', m, rfl, ?_, hb⟩
    have e1 : (m == n) = nd := by
      rw [hnd]
      by_cases hd : c.parents.Nodup
      · rw [decide_eq_true hd, hm.2 hd]
        simp
      · rw [decide_eq_false hd]
        exact beq_eq_false_iff_ne.2 (fun e => hd (hm.1 e))
    have e2 : ((m : Int) == (n : Int)) = (m == n) := by
      rw [Bool.eq_iff_iff]; simp; omega
    exact ⟨by rw [e2, e1], e1, by rw [bne, e2, e1], by rw [bne, e1]⟩
  rw [← hnd] at hW
  have cc : ∀ w', Below W0.heap.size W0 w' → w'.cell? ⟨w.heap.size, 20, none⟩ = some (.slice A n cap) ∧ w'.cell? ⟨w.heap.size, 21, none⟩ = some (.string (bstr au)) ∧ w'.cell? ⟨w.heap.size, 22, none⟩ = some (.string (bstr co)) ∧ Below W0.heap.size W0 w' := fun w' h =>
    ⟨(h.cell (World.block_lt_of_cell? W0 _ c1)).trans c1, (h.cell (World.block_lt_of_cell? W0 _ c2)).trans c2, (h.cell (World.block_lt_of_cell? W0 _ c3)).trans c3, h⟩
  have HW0 := Lib.hid hW0; have BW := Lib.hid hb0; have CC := Lib.hid cc; have KS := Lib.hid ks2
  rw [hW.out]
  clear hW hW0 hb0 S0 hk e20 q1 q2 q3 q4 ks ks2 hn' hta htc hnd hau hco h20 hp hn ha hc hA h0 c1 c2 c3 kt
  have g1 : decide ((512 : Int) < (n : Int)) = false := decide_eq_false (by omega)
  cases nd with
  | false =>
    simp only [Bool.not_false] at KS
    go_enter Tryz.func62, Tryz.ntmps62
    go_upto_region 1 with fail
    rw [← HW0.out]
    obtain ⟨d1, d2, d3, _⟩ := CC.out W0 (Below.refl _ _)
    first
      | (go_region_with (first
          | (go_at_call 88; (with_reducible refine (KS.out _ (Below.refl _ _).drew).mono ?_); rintro e w1 ⟨A1, m1, rfl, ⟨hm1, hm2, hm3, hm4⟩, hb1⟩; obtain ⟨d4, d5, d6, _⟩ := CC.out _ hb1)
          | (go_at_call 106; (with_reducible refine (ka _).mono ?_); rintro e w2 ⟨rfl, rfl⟩)))
      | fail
    all_goals
      go_wp2
      go_ret
      exact ⟨rfl, BW.out.trans (hb1.mono BW.out.size)⟩
  | true =>
    simp only [Bool.not_true] at KS
    cases ta with
    | false =>
      go_enter Tryz.func62, Tryz.ntmps62
      go_upto_region 1 with fail
      rw [← HW0.out]
      obtain ⟨d1, d2, d3, _⟩ := CC.out W0 (Below.refl _ _)
      first
        | (go_region_with (first
            | (go_at_call 88; (with_reducible refine (KS.out _ (Below.refl _ _).drew).mono ?_); rintro e w1 ⟨A1, m1, rfl, ⟨hm1, hm2, hm3, hm4⟩, hb1⟩; obtain ⟨d4, d5, d6, _⟩ := CC.out _ hb1)
            | (go_at_call 106; (with_reducible refine (ka _).mono ?_); rintro e w2 ⟨rfl, rfl⟩)))
        | fail
      all_goals
        go_wp2
        go_ret
        exact ⟨rfl, BW.out.trans (hb1.mono BW.out.size)⟩
    | true =>
      cases tc
      all_goals
        go_enter Tryz.func62, Tryz.ntmps62
        go_upto_region 1 with fail
        rw [← HW0.out]
        first
          | (go_region_held3 (fun w' => w'.cell? ⟨w.heap.size, 20, none⟩ = some (.slice A n cap) ∧ w'.cell? ⟨w.heap.size, 21, none⟩ = some (.string (bstr au)) ∧ w'.cell? ⟨w.heap.size, 22, none⟩ = some (.string (bstr co)) ∧ Below W0.heap.size W0 w')
              (first | exact CC.out _ (Below.refl _ _).drew | exact CC.out _ hb1 | go_keep)
              (first
                | (go_at_call 88; go_split_ands; (with_reducible refine (KS.out _ (by assumption)).mono ?_); rintro e w1 ⟨A1, m1, rfl, ⟨hm1, hm2, hm3, hm4⟩, hb1⟩)
                | (go_at_call 106; go_split_ands; (with_reducible refine (ka _).mono ?_); rintro e w2 ⟨rfl, rfl⟩)
                | (go_at_call 106; go_split_ands; (with_reducible refine (kc _).mono ?_); rintro e w2 ⟨rfl, rfl⟩)))
          | fail
        go_wp2
        go_ret
        exact ⟨rfl, BW.out.trans (hb1.mono BW.out.size)⟩
end
section
open Go.RowKit
set_option maxRecDepth 100000
set_option maxHeartbeats 1000000
set_option linter.unusedVariables false
theorem builderAt_belowC {T e : TypeId} {B b : Nat} {p : Value} {bs : List Value} {w w' : World} (h : Lib.BuilderAt T e B b p bs w) (hb : Below w.heap.size w w') : Lib.BuilderAt T e B b p bs w' := by
  obtain ⟨hB, v, hk, hown, hne⟩ := h
  exact ⟨hB, v, (hb.block _ (Array.getElem?_eq_some_iff.1 hk).1).trans hk, ownsRow_below hown hb, hne⟩
theorem isBuilder_belowC {T e : TypeId} {B b : Nat} {bs : List Value} {w w' : World} (h : Lib.IsBuilder T e B b bs w) (hb : Below w.heap.size w w') : Lib.IsBuilder T e B b bs w' :=
  h.imp (fun h => builderAt_belowC h hb) (fun h => builderAt_belowC h hb)
abbrev Bl (B : Nat) (l : List UInt8) (w : World) : Prop := Lib.IsBuilder 113 5 B B (Lib.byteCells l) w
theorem wr_any (B : Nat) (l s : List UInt8) (hl : l.length ≤ 100000000) (hs : s.length ≤ 100000000) (w : World) (h : Bl B l w) (hB : B ≤ w.heap.size) :
    Calls Tryz.prog 63 #[.pointer (some ⟨B, 0, none⟩), .string (bstr s)] w fun e w' => e = .returned (.tuple #[.int .i64 (s.length : Nat), .nilIface]) ∧ Bl B (l ++ s) w' ∧ Below B w w' := by
  have hz := bstr_size s
  refine (wstr_any B B (Lib.byteCells l) (bstr s) w h (by rw [hz, Lib.byteCells_length]; omega) hB).mono ?_
  rintro e w' ⟨rfl, h1, h2⟩
  refine ⟨by rw [hz], .inr ?_, h2⟩
  rw [show Lib.byteCells (l ++ s) = Lib.byteCells l ++ Lib.strCells (bstr s) by simp [Lib.byteCells, Lib.strCells]]
  exact h1
def cmH (c : Cm) : List UInt8 := wTree ++ hexs c.tree ++ [10]
def cmE (c : Cm) : List UInt8 := wAuthor ++ c.author ++ [10] ++ wCommitter ++ c.committer ++ [10, 10] ++ c.message
def parL (p : List UInt8) : List UInt8 := wParent ++ hexs p ++ [10]
theorem cmB_eq (c : Cm) : cmB c = cmH c ++ parB c.parents ++ cmE c := by simp [cmB, cmH, cmE, parB]
theorem parB_snoc (l : List (List UInt8)) (i : Nat) (hi : i < l.length) : parB (l.take (i + 1)) = parB (l.take i) ++ parL (l.getD i []) := by
  rw [List.take_succ_eq_append_getElem hi]
  unfold parB parL
  rw [List.flatMap_append]
  have : l.getD i [] = l[i] := by rw [List.getD_eq_getElem?_getD, List.getElem?_eq_getElem hi]; rfl
  rw [this]
  simp
theorem parB_size : ∀ (l : List (List UInt8)), All20 l → (parB l).length = l.length * 48
  | [], _ => rfl
  | p :: l, h => by
    have ih := parB_size l (fun x hx => h x (by simp [hx]))
    have := h p (by simp)
    simp only [parB, List.flatMap_cons, List.length_append, List.length_cons, List.length_nil, hexs_len, this, wParent] at *
    omega
theorem encC_any (c : Cm) (h20 : c.tree.length = 20) (hp : All20 c.parents) (hn : c.parents.length < 256) (ha : c.author.length ≤ 1000000) (hc : c.committer.length ≤ 1000000) (hm : c.message.length ≤ 1000000) (A : Option Addr) (cap : Nat) (h0 : A = none → cap = 0) (w : World) (hA : Sl w A (idc c.parents)) :
    Calls Tryz.prog 23 #[cv (ck c (.slice A c.parents.length cap))] w (OutB (encC c).1 (encC c).2 w) := by
  obtain ⟨k, hk⟩ : ∃ k, k = ck c (.slice A c.parents.length cap) := ⟨_, rfl⟩
  obtain ⟨W0, hW0⟩ : ∃ W0, W0 = w.alloc (.cells (ccell k).toArray 45) := ⟨_, rfl⟩
  have hb0 : Below w.heap.size w W0 := by rw [hW0]; exact (Below.refl _ _).alloc (Nat.le_refl _) _
  have hsz : w.heap.size < W0.heap.size := by rw [hW0]; simp
  have S0 : Sl W0 (some ⟨w.heap.size, 0, none⟩) (ccell k) := by
    rw [hW0]
    exact Sl.of_block (heap_alloc_new _ _) (fun j v hj => by simpa using hj)
  have e20 : k.tree.length = 20 := by rw [hk]; exact h20
  have kw := wrong_any c h20 hp hn (by omega) (by omega) A cap h0 W0 (hA.below hb0)
  rw [← hk] at kw ⊢
  have L0 := load_ck e20 S0
  by_cases hw : wrongC c = true
  · have e : Hid (encC c = ([], 1)) := Lib.hid (if_pos hw)
    rw [hw] at kw
    have HW0 := Lib.hid hW0; have HB0 := Lib.hid hb0
    clear hw hW0 hb0 S0 hk e20 h20 hp hn ha hc hm h0 hA hsz
    go_enter Tryz.func23, Tryz.ntmps23
    go_upto_region 1 with fail
    rw [← HW0.out]
    go_wp2_with (first
      | (refine wpList_loadG 45 (.tmp 1) rfl ⟨w.heap.size, 0, none⟩ rfl (cv k) L0 rfl ?_)
      | (go_at_call 62; (with_reducible refine kw.mono ?_); rintro e w1 ⟨rfl, hb1⟩))
    go_ret2
    rw [e.out]
    exact ⟨⟨none, 0, rfl, Nat.le_refl _, Sl.nil _ _⟩, HB0.out.trans (hb1.mono HB0.out.size)⟩
  · have hw' : wrongC c = false := by simpa using hw
    have e : Hid (encC c = wholeI (cmB c)) := Lib.hid (by unfold encC wholeI; rw [if_neg hw])
    rw [hw'] at kw
    have HW0 := Lib.hid hW0; have HB0 := Lib.hid hb0
    obtain ⟨q1, q2, q3, q4⟩ := ccell_at e20
    have ct : ∀ w', Below W0.heap.size W0 w' → Sl w' (some ⟨w.heap.size, 0, none⟩) (bvs c.tree) := fun w' h j v hj => S0.below h j v (by
      rw [hk]; unfold ccell
      rw [List.getElem?_append_left (by have := (List.getElem?_eq_some_iff.1 hj).1; simpa using this)]
      exact hj)
    have c1 : ∀ w', Below W0.heap.size W0 w' → w'.cell? ⟨w.heap.size, 20, none⟩ = some (.slice A c.parents.length cap) ∧ w'.cell? ⟨w.heap.size, 21, none⟩ = some (.string (bstr c.author)) ∧ w'.cell? ⟨w.heap.size, 22, none⟩ = some (.string (bstr c.committer)) ∧ w'.cell? ⟨w.heap.size, 23, none⟩ = some (.string (bstr c.message)) := fun w' h => by
      have a1 := ck_at (S0.below h) q1; have a2 := ck_at (S0.below h) q2; have a3 := ck_at (S0.below h) q3; have a4 := ck_at (S0.below h) q4
      rw [add_plain, Nat.zero_add] at a1 a2 a3 a4
      rw [hk] at a1 a2 a3 a4
      exact ⟨a1, a2, a3, a4⟩
    have hlen : (cmB c).length ≤ 1073741824 ∧ (cmH c).length = 46 ∧ (cmE c).length = c.author.length + c.committer.length + c.message.length + 20 := by
      have hb := parB_size c.parents hp
      have h2 : (cmH c).length = 46 := by simp [cmH, wTree, hexs_len, h20]
      have h3 : (cmE c).length = c.author.length + c.committer.length + c.message.length + 20 := by simp [cmE, wAuthor, wCommitter]; omega
      refine ⟨?_, h2, h3⟩
      rw [cmB_eq, List.length_append, List.length_append, h2, h3, hb]
      omega
    obtain ⟨hl1, hl2, hl3⟩ := hlen
    have kwh := fun w => whole_any (cmB c) hl1 w
    have kst := fun (B : Nat) (w : World) (h : Bl B (cmB c) w) (hB : B ≤ w.heap.size) => Tryz.Builder_String_any B B (cmB c) w h hB
    have psz := fun i => parB_size (c.parents.take i) (fun x hx => hp x (List.mem_of_mem_take hx))
    obtain ⟨n, hn'⟩ : ∃ n, n = c.parents.length := ⟨_, rfl⟩
    have hnb : n < 256 := by omega
    rw [← hn'] at c1
    have PSZ : Hid (∀ i, i ≤ n → (parB (c.parents.take i)).length ≤ 12288) := Lib.hid (fun i hi => by
      rw [psz i, List.length_take]; have := Nat.min_le_left i c.parents.length; omega)
    have HT : Hid (⟨#[116, 114, 101, 101, 32]⟩ ++ bstr (hexs c.tree) ++ ⟨#[10]⟩ = bstr (cmH c)) := Lib.hid (by
      apply ByteArray.ext
      simp [cmH, wTree])
    have HE : Hid (⟨#[97, 117, 116, 104, 111, 114, 32]⟩ ++ bstr c.author ++ ⟨#[10, 99, 111, 109, 109, 105, 116, 116, 101, 114, 32]⟩ ++ bstr c.committer ++ ⟨#[10, 10]⟩ ++ bstr c.message = bstr (cmE c)) := Lib.hid (by
      apply ByteArray.ext
      simp [cmE, wAuthor, wCommitter])
    have hht : (hexs c.tree).length = 40 := by rw [hexs_len, h20]
    have hhx : (hexs c.tree).length ≤ 40 := by omega
    have CT := Lib.hid ct; have C1 := Lib.hid c1; have KWH := Lib.hid kwh; have KST := Lib.hid kst; have HN := Lib.hid hn'; have H20 := Lib.hid h20; have HP := Lib.hid hp; have HSZ := Lib.hid hsz
    have HA := Lib.hid (hA.below hb0); have HL2 := Lib.hid hl2; have HL3 := Lib.hid hl3
    have kht := fun w => hex_any c.tree w h20
    obtain ⟨au, hau⟩ : ∃ au, au = c.author := ⟨_, rfl⟩
    obtain ⟨co, hco⟩ : ∃ co, co = c.committer := ⟨_, rfl⟩
    obtain ⟨me, hme⟩ : ∃ me, me = c.message := ⟨_, rfl⟩
    obtain ⟨tr, htr⟩ : ∃ tr, tr = c.tree := ⟨_, rfl⟩
    rw [← hau, ← hco, ← hme] at C1 HE HL3
    rw [← hau] at ha
    rw [← hco] at hc
    rw [← hme] at hm
    rw [← htr] at CT HT kht hhx H20
    obtain ⟨hh, hhh⟩ : ∃ hh, hh = hexs tr := ⟨_, rfl⟩
    rw [← hhh] at HT kht
    rw [← hhh] at hhx
    rw [e.out]
    clear e hw hw' hW0 hb0 S0 hk e20 h20 hp hn h0 hA hsz q1 q2 q3 q4 ct c1 hl1 hl2 hl3 kwh kst psz hn' hau hco hme htr hhh hht
    go_enter Tryz.func23, Tryz.ntmps23
    go_upto_region 1 with fail
    rw [← HW0.out]
    go_upto_region 4 with (first
      | (refine wpList_loadG 45 (.tmp 1) rfl ⟨w.heap.size, 0, none⟩ rfl (cv k) L0 rfl ?_)
      | (go_at_call 62; (with_reducible refine kw.mono ?_); rintro e w1 ⟨rfl, hb1⟩))
    obtain ⟨W1, hW1⟩ : ∃ W1, W1 = w1.alloc (.cells #[.pointer none, .slice none 0 0] 113) := ⟨_, rfl⟩
    rw [← hW1]
    obtain ⟨B, hB⟩ : ∃ B, B = w1.heap.size := ⟨_, rfl⟩
    rw [← hB]
    have B0 : Bl B [] W1 := by rw [hW1, hB]; exact Lib.fresh_isBuilder _ _ _
    have bB : Below B w1 W1 := by rw [hW1, hB]; exact (Below.refl _ _).alloc (Nat.le_refl _) _
    have hBW : B ≤ W1.heap.size := by rw [hW1, hB]; simp
    have h0B : W0.heap.size ≤ B := by rw [hB]; exact hb1.size
    have b1 : Below W0.heap.size W0 W1 := hb1.trans (bB.mono h0B)
    have lt : ∀ w', Below B W1 w' → (loadVar 27 ⟨w.heap.size, 0, none⟩).run Tryz.prog w' = .ok (idv tr) w' := fun w' h => load_idT 27 (fun w => by kernel_rfl) (fun w => by kernel_rfl) tr H20.out _ w' (CT.out w' (b1.trans (h.mono h0B)))
    have cc := fun w' (h : Below B W1 w') => C1.out w' (b1.trans (h.mono h0B))
    have HB0' := Lib.hid B0; have HBW := Lib.hid hBW; have H0B := Lib.hid h0B; have HB1 := Lib.hid b1; have LT := Lib.hid lt; have CC := Lib.hid cc; have HBQ := Lib.hid hB
    have l1 := LT.out W1 (Below.refl _ _)
    clear B0 bB hBW h0B b1 lt cc hW1 hB hb1
    go_upto_region 5 with (first
      | (refine wpList_loadG 27 (.tmp 9) rfl ⟨w.heap.size, 0, none⟩ rfl (idv tr) l1 rfl ?_)
      | (go_at_call 64; (with_reducible refine (kht _).mono ?_); rintro e w2 ⟨rfl, hb2⟩
         have B2 := Lib.hid (isBuilder_belowC HB0'.out hb2)
         have bb2 := Lib.hid (hb2.mono HBW.out)
         have hz2 := Lib.hid (Nat.le_trans HBW.out hb2.size))
      | (go_at_call 63
         simp only [HT.out]
         go_loud ((with_reducible refine (wr_any B [] (cmH c) (by simp) (by rw [HL2.out]; omega) _ B2.out hz2.out).mono ?_); rintro e w3 ⟨rfl, hB3, hb3⟩)))
    have bb3 := bb2.out.trans hb3
    have B3 : Bl B (cmH c ++ parB (c.parents.take 0)) w3 := by
      rw [List.take_zero, show parB [] = [] from rfl, List.append_nil]
      exact hB3
    have HB3 := Lib.hid B3
    obtain ⟨p1, _, _, _⟩ := CC.out w3 bb3
    clear hb3 hB3 B3 l1
    go_wp2
    go_loopw [18] (fun t18 wr => ∃ i : Nat, t18 = .int .i64 (i : Int) ∧ i ≤ n ∧ Hid (Bl B (cmH c ++ parB (c.parents.take i)) wr) ∧ Below B W1 wr) (fun t18 _ => (n - intOf t18).toNat)
    case atStart => exact ⟨0, rfl, by omega, HB3, bb3⟩
    case round =>
      clear p1 HB3 bb3 B2 bb2 hz2
      obtain ⟨i, rfl, hi, HBL, hbw⟩ := hrel
      have b0w := HB1.out.trans (hbw.mono H0B.out)
      by_cases hin : i < n
      · have hil : i < c.parents.length := by rw [← HN.out]; exact hin
        obtain ⟨ad, rfl⟩ : ∃ ad, A = some ad := by
          cases A with
          | some ad => exact ⟨ad, rfl⟩
          | none =>
            have := sl_none HA.out HP.out
            rw [this] at hil
            simp at hil
        have hr := (sl_row HA.out HP.out i hil).below b0w
        have hsn := parB_snoc c.parents i hil
        obtain ⟨x, hx⟩ : ∃ x, x = c.parents.getD i [] := ⟨_, rfl⟩
        have hx20 : x.length = 20 := by rw [hx]; exact get20 HP.out i hil
        rw [← hx] at hr hsn
        have lx := load_id x hx20 _ _ hr
        have zx := Lib.hid (info23 x hx20)
        have hz20 : (bvs zs20).toArray.size = (bvs x).toArray.size := by rw [show (bvs x).toArray.size = 20 by simp [hx20]]; rfl
        have HZ := Lib.hid hz20
        obtain ⟨r2, b2⟩ := new_set wr 27 (bvs zs20).toArray (bvs x).toArray
        obtain ⟨W2, hW2⟩ : ∃ W2, W2 = (wr.alloc (.cells (bvs zs20).toArray 27)).setRow wr.heap.size (bvs x).toArray := ⟨_, rfl⟩
        rw [← hW2] at r2 b2
        have khx := fun w => hex_any x w hx20
        obtain ⟨hh2, hhh2⟩ : ∃ hh2, hh2 = hexs x := ⟨_, rfl⟩
        have hh2l : hh2.length ≤ 40 := by rw [hhh2, hexs_len, hx20]; omega
        have HPL : Hid (⟨#[112, 97, 114, 101, 110, 116, 32]⟩ ++ bstr hh2 ++ ⟨#[10]⟩ = bstr (parL x)) := Lib.hid (by
          rw [hhh2]
          apply ByteArray.ext
          simp [parL, wParent])
        rw [← hhh2] at khx
        have hpl : (parL x).length ≤ 48 := by simp [parL, wParent, hexs_len, hx20]
        have bw2 : Below B W1 W2 := hbw.trans (b2.mono (Nat.le_trans HBW.out hbw.size))
        have B2 := Lib.hid (isBuilder_belowC HBL.out b2)
        have hps := PSZ.out i hi
        have hls : (cmH c ++ parB (c.parents.take i)).length ≤ 100000000 := by rw [List.length_append, HL2.out]; omega
        have R2 := Lib.hid r2; have HW2 := Lib.hid hW2; have BW2 := Lib.hid bw2; have HSN := Lib.hid hsn; have HPLN := Lib.hid hpl; have HLS := Lib.hid hls
        clear hr hsn hx hx20 hz20 r2 b2 hW2 hhh2 hpl bw2 hps hls HBL hbw b0w
        go_upto_region 8 with (first
          | (refine wpList_loadG 27 (.tmp 20) rfl (ad.add (i * 20)) rfl (idv x) lx rfl ?_)
          | (refine wpList_store_row rfl 27 (.tmp 6) (.tmp 21) rfl wr.heap.size (bvs x).toArray rfl rfl 27 (bvs zs20).toArray (heap_alloc_new _ _) zx.out HZ.out (one_bvs _) ?_))
        simp only [zlit, Act.put]
        rw [← HW2.out]
        go_wp2_with (first
          | (refine wpList_load_row rfl 27 (.tmp 6) rfl wr.heap.size rfl 27 (bvs x).toArray (0, 0) _ R2.out Tryz.underlying27 rfl zx.out ?_)
          | (go_at_call 64; (with_reducible refine (khx _).mono ?_); rintro e w4 ⟨rfl, hb4⟩
             have B4 := Lib.hid (isBuilder_belowC B2.out hb4)
             have bw4 := Lib.hid (BW2.out.trans (hb4.mono (Nat.le_trans HBW.out BW2.out.size))))
          | (go_at_call 63
             simp only [HPL.out]
             go_loud ((with_reducible refine (wr_any B _ (parL x) HLS.out (by have := HPLN.out; omega) _ B4.out (Nat.le_trans HBW.out bw4.out.size)).mono ?_); rintro e w5 ⟨rfl, hB5, hb5⟩
                      have HB5 := Lib.hid hB5
                      clear hB5)))
        go_roundw
        case rel => exact ⟨i + 1, by simp, by omega, Lib.hid (by rw [HSN.out, ← List.append_assoc]; exact HB5.out), bw4.out.trans hb5⟩
        case measure => simp only [intOf]; omega
      · obtain rfl : i = n := by omega
        obtain ⟨_, p2, p3, p4⟩ := CC.out wr hbw
        have hps := PSZ.out i (Nat.le_refl _)
        have hls : (cmH c ++ parB (c.parents.take i)).length ≤ 100000000 := by rw [List.length_append, HL2.out]; omega
        have hle : (cmE c).length ≤ 100000000 := by rw [HL3.out]; omega
        have hz : cmH c ++ parB (c.parents.take i) ++ cmE c = cmB c := by rw [HN.out, List.take_of_length_le (Nat.le_refl _), ← cmB_eq]
        have HLS := Lib.hid hls; have HLE := Lib.hid hle; have HZ := Lib.hid hz; have HBW2 := Lib.hid hbw; have HB0W := Lib.hid b0w
        clear hps hls hle hz hbw hin hi b0w
        go_wp2_with (first
          | (go_at_call 63
             simp only [HE.out]
             go_loud ((with_reducible refine (wr_any B _ (cmE c) HLS.out HLE.out _ HBL.out (Nat.le_trans HBW.out HBW2.out.size)).mono ?_); rintro e w5 ⟨rfl, hB5, hb5⟩
                      have HB5 : Hid (Bl B (cmB c) w5) := Lib.hid (by rw [← HZ.out]; exact hB5)
                      clear hB5))
          | (go_at_call 66; (with_reducible refine (KST.out B _ HB5.out (Nat.le_trans HBW.out (Nat.le_trans HBW2.out.size hb5.size))).mono ?_); rintro e w6 ⟨rfl, hb6⟩)
          | (go_at_call 65; (with_reducible refine (KWH.out _).mono ?_); rintro e w7 ⟨⟨A7, c7, rfl, hc7, hs7⟩, hb7⟩))
        go_ret2
        have hb5' := HBW2.out.trans hb5
        have hb6' := hb5'.trans hb6
        have hb6'' := HB1.out.trans (hb6'.mono H0B.out)
        have hb7' := HB0.out.trans ((hb6''.trans (hb7.mono hb6''.size)).mono HB0.out.size)
        exact ⟨⟨A7, c7, rfl, hc7, hs7⟩, hb7'⟩
end
section
open Go.RowKit
set_option maxRecDepth 100000
set_option maxHeartbeats 1000000
set_option linter.unusedVariables false
theorem cells_one' {v : Value} (h : v.oneCell' = true) : v.cells = #[v] := by
  cases v <;> first | rfl | (simp [Value.oneCell'] at h)
theorem run_storeOne {T : Nat} (hT : ∀ w, (sizeOf T).run Tryz.prog w = .ok 1 w) {w : World} {g j : Nat} {cs : Array Value} {U : Nat} {v : Value} (hrow : w.heap[g]? = some (.cells cs U (0, 0))) (hj : j < cs.size) (h1 : v.oneCell' = true) :
    (storeVar T ⟨g, j, none⟩ v).run Tryz.prog w = .ok () (w.setCell ⟨g, j, none⟩ v) := by
  have hc : w.cell? ⟨g, j, none⟩ = some cs[j] := by rw [cell_of_row _ _ _ _ _ _ hrow]; simp [hj]
  have hf : w.frozen? ⟨g, j, none⟩ = false := frozen_of_row w g j _ _ hrow
  have hv := cells_one' h1
  have hs := run_store Tryz.prog w ⟨g, j, none⟩ v
  simp [storeVar, Sem.run_bind, hT, hv, storeCells]
  rw [add_plain, Nat.add_zero, hs _ h1, hc, hf]
  simp
theorem wpList_storeC {w : World} {ops : Array Oper} {rest : List Oper} {o : Oper} {a : Act} {Q : Exit → Act → World → Prop} (hgd : o.guard = none) (ty : Nat) (hT : ∀ w, (sizeOf ty).run Tryz.prog w = .ok 1 w) (x y : Operand) (ho : o.op = .store ty x y)
    (g j : Nat) (v : Value) (hx : a.eval x = .pointer (some ⟨g, j, none⟩)) (hy : a.eval y = v) (U : Nat) (cs : Array Value) (hrow : w.heap[g]? = some (.cells cs U (0, 0))) (hj : j < cs.size) (h1 : v.oneCell' = true)
    (h : ∀ w', w'.heap[g]? = some (.cells (cs.setIfInBounds j v) U (0, 0)) → Kp (fun k => k = g) w w' → w'.heap.size = w.heap.size → wpList Tryz.prog ops Q rest (a.put o.dst undef) w') : wpList Tryz.prog ops Q (o :: rest) a w :=
  wpList_plain hgd fun K hK => wp_storeV ty x y ho ⟨g, j, none⟩ v hx hy (run_storeOne hT hrow hj h1) (hK _ _ (h _ (heap_setCell_same _ _ _ _ _ _ hrow) (Kp.setCell (Kp.refl (fun k => k = g) _) (.inl rfl) _) (by simp)))
end
section
open Go.RowKit
set_option maxRecDepth 100000
set_option maxHeartbeats 1000000
set_option linter.unusedVariables false
theorem idc_app (a b : List (List UInt8)) : idc (a ++ b) = idc a ++ idc b := by simp [idc]
theorem step_appI {ops : Array Oper} {o : Oper} {a : Act} {w : World} {K : Act → World → Prop} {Q : Exit → Act → World → Prop} {E : Prop} (hg : o.guard = none) (s x : Operand)
    (ho : o.op = .call { callee := .builtin .append, args := #[s, x], argTypes := #[43, 43] })
    (B : Nat) (v : Value) (l : List (List UInt8)) (hs : a.eval s = v) (hown : Win w B 27 20 v l.length (idc l)) (A : Option Addr) (c n : Nat) (m : List (List UInt8)) (hn : n = m.length) (m20 : All20 m) (hx : a.eval x = .slice A n c) (hA : Sl w A (idc m))
    (hb : l.length + m.length ≤ 100000) (hB : B ≤ w.heap.size)
    (hK : ∀ v' w', Win w' B 27 20 v' (l ++ m).length (idc (l ++ m)) → Kp (fun k => v.ownBlock = some k) w w' → (v'.ownBlock = v.ownBlock ∨ v'.ownBlock = some w.heap.size) → K (a.put o.dst v') w') :
    if Region.wanted o (yielded ops a.tmps) = true then Oper.wp Tryz.prog o a w K Q else E := by
  subst hn
  have hw : Region.wanted o (yielded ops a.tmps) = true := by simp [Region.wanted, hg]
  rw [if_pos hw]
  obtain ⟨v', w', hrun, h1, h2, h3⟩ := run_appW (P := Tryz.prog) B 43 43 o.type 27 (idv zs20) 20 20 Tryz.underlying43 Tryz.info23 rfl (by decide) v l.length (idc l) hown (.slice A m.length c) m.length (idc m) (srcOf Tryz.underlying43 (by decide) (idc_len m m20) hA (idc_one m)) (by omega) (by unfold maxLen; omega) hB
  unfold Oper.wp
  simp [execOp, ho, resolve, invoke, builtin, hs, hx, hrun, Result.andThen]
  exact hK v' w' (by rw [List.length_append, idc_app]; exact h1) h2 h3
theorem wpList_appI {w : World} {ops : Array Oper} {rest : List Oper} {o : Oper} {a : Act} {Q : Exit → Act → World → Prop} (hgd : o.guard = none) (s x : Operand)
    (ho : o.op = .call { callee := .builtin .append, args := #[s, x], argTypes := #[43, 43] })
    (B : Nat) (v : Value) (l : List (List UInt8)) (hs : a.eval s = v) (hown : Win w B 27 20 v l.length (idc l)) (A : Option Addr) (c n : Nat) (m : List (List UInt8)) (hn : n = m.length) (m20 : All20 m) (hx : a.eval x = .slice A n c) (hA : Sl w A (idc m))
    (hb : l.length + m.length ≤ 100000) (hB : B ≤ w.heap.size)
    (h : ∀ v' w', Win w' B 27 20 v' (l ++ m).length (idc (l ++ m)) → Kp (fun k => v.ownBlock = some k) w w' → (v'.ownBlock = v.ownBlock ∨ v'.ownBlock = some w.heap.size) → wpList Tryz.prog ops Q rest (a.put o.dst v') w') : wpList Tryz.prog ops Q (o :: rest) a w := by
  subst hn
  exact wpList_appW hgd s x 43 43 ho B 27 (idv zs20) 20 20 Tryz.underlying43 Tryz.info23 rfl (by decide) v l.length (idc l) hs hown (.slice A m.length c) m.length (idc m) hx (srcOf Tryz.underlying43 (by decide) (idc_len m m20) hA (idc_one m)) (by omega) (by unfold maxLen; omega) hB
    (fun v' w' h1 h2 h3 => h v' w' (by rw [List.length_append, idc_app]; exact h1) h2 h3)
end
section
open Go.RowKit
set_option maxRecDepth 100000
set_option maxHeartbeats 1000000
set_option linter.unusedVariables false
abbrev ck0 (t : List UInt8) (v : Value) : Ck := ⟨t, v, [], [], []⟩
def zck : Array Value := (ccell (ck0 zs20 (.slice none 0 0))).toArray
theorem zcklit : (#[.int .u8 0, .int .u8 0, .int .u8 0, .int .u8 0, .int .u8 0, .int .u8 0, .int .u8 0, .int .u8 0, .int .u8 0, .int .u8 0, .int .u8 0, .int .u8 0, .int .u8 0, .int .u8 0, .int .u8 0, .int .u8 0, .int .u8 0, .int .u8 0, .int .u8 0, .int .u8 0, .slice none 0 0, .string ⟨#[]⟩, .string ⟨#[]⟩, .string ⟨#[]⟩] : Array Value) = zck := rfl
theorem zcklit2 : (#[.int .u8 0, .int .u8 0, .int .u8 0, .int .u8 0, .int .u8 0, .int .u8 0, .int .u8 0, .int .u8 0, .int .u8 0, .int .u8 0, .int .u8 0, .int .u8 0, .int .u8 0, .int .u8 0, .int .u8 0, .int .u8 0, .int .u8 0, .int .u8 0, .int .u8 0, .int .u8 0, .slice none 0 0, .string ByteArray.empty, .string ByteArray.empty, .string ByteArray.empty] : Array Value) = zck := rfl
theorem ccell_one {k : Ck} (h : k.par.oneCell' = true) : (ccell k).toArray.all (·.oneCell') = true := by
  simp only [ccell, List.all_toArray, List.all_append, Bool.and_eq_true]
  refine ⟨?_, by simp only [List.all_cons, h, Bool.true_and, List.all_nil]; rfl⟩
  have := one_bvs k.tree
  simpa using this
theorem infoC {k : Ck} (h : k.tree.length = 20) : (Tryz.prog.info? 45).map (·.size) = some (ccell k).toArray.size := by
  rw [show (ccell k).toArray.size = 24 by simp [ccell_len h]]
  kernel_rfl
theorem zck_size {k : Ck} (h : k.tree.length = 20) : zck.size = (ccell k).toArray.size := by
  rw [show (ccell k).toArray.size = 24 by simp [ccell_len h]]; rfl
theorem builtC20 (a0 a1 a2 a3 a4 a5 a6 a7 a8 a9 b0 b1 b2 b3 b4 b5 b6 b7 b8 b9 : UInt8) : Tryz.prog.built 45 [(0, idv [a0, a1, a2, a3, a4, a5, a6, a7, a8, a9, b0, b1, b2, b3, b4, b5, b6, b7, b8, b9])] = some (ccell (ck0 [a0, a1, a2, a3, a4, a5, a6, a7, a8, a9, b0, b1, b2, b3, b4, b5, b6, b7, b8, b9] (.slice none 0 0))).toArray := by kernel_rfl
theorem builtC (id : List UInt8) (h : id.length = 20) : Tryz.prog.built 45 [(0, idv id)] = some (ccell (ck0 id (.slice none 0 0))).toArray :=
  match id, h with
  | [a0, a1, a2, a3, a4, a5, a6, a7, a8, a9, b0, b1, b2, b3, b4, b5, b6, b7, b8, b9], _ => builtC20 a0 a1 a2 a3 a4 a5 a6 a7 a8 a9 b0 b1 b2 b3 b4 b5 b6 b7 b8 b9
theorem wpList_buildC {ops : Array Oper} {rest : List Oper} {o : Oper} {a : Act} {w : World} {Q : Exit → Act → World → Prop} (hg : o.guard = none) (x : Operand) (ho : o.op = .build 45 #[(0, x)])
    (id : List UInt8) (hid : id.length = 20) (hx : a.eval x = idv id) (h : wpList Tryz.prog ops Q rest (a.put o.dst (cv (ck0 id (.slice none 0 0)))) w) : wpList Tryz.prog ops Q (o :: rest) a w := by
  refine wpList_plain hg fun K hK => ?_
  have hr := run_build (P := Tryz.prog) w 45 #[(0, idv id)] _ (builtC id hid)
  unfold Oper.wp
  simp [execOp, ho, hx, hr, Result.andThen]
  exact hK _ _ h
theorem zeroC : Tryz.prog.built 45 [] = some zck := by kernel_rfl
theorem wpList_buildC0 {ops : Array Oper} {rest : List Oper} {o : Oper} {a : Act} {w : World} {Q : Exit → Act → World → Prop} (hg : o.guard = none) (ho : o.op = .build 45 #[])
    (h : wpList Tryz.prog ops Q rest (a.put o.dst (.agg zck)) w) : wpList Tryz.prog ops Q (o :: rest) a w := by
  refine wpList_plain hg fun K hK => ?_
  have hr := run_build (P := Tryz.prog) w 45 #[] _ zeroC
  unfold Oper.wp
  simp [execOp, ho, hr, Result.andThen]
  exact hK _ _ h
/-- what DecodeCommit hands back -/
def OutC (c : Cm) (e : Nat) (w : World) (z : Ending) (w' : World) : Prop :=
  (∃ A cap, z = .returned (.tuple #[cv (ck c (.slice A c.parents.length cap)), .int .i64 (e : Int)]) ∧ (A = none → cap = 0) ∧ c.parents.length ≤ cap ∧ Sl w' A (idc c.parents)) ∧ Below w.heap.size w w'
theorem decC_long (b : List UInt8) (hb : b.length ≤ 1073741824) (h : 16384 < b.length) (A : Option Addr) (cap : Nat) (w : World) :
    Calls Tryz.prog 31 #[.slice A b.length cap] w (OutC (decC b).1 (decC b).2 w) := by
  have e : Hid (decC b = (noCm, 5)) := Lib.hid (if_pos h)
  have zi := Lib.hid (infoC (k := ck0 zs20 (.slice none 0 0)) zs20_len)
  have zz : Hid (zck.all (·.oneCell') = true) := Lib.hid (by kernel_rfl)
  go_enter Tryz.func31, Tryz.ntmps31
  go_upto_region 1 with fail
  simp only [zcklit]
  go_wp2_with (first
    | (refine wpList_buildC0 rfl rfl ?_)
    | (refine wpList_store_row rfl 45 (.tmp 2) (.tmp 11) rfl w.heap.size zck rfl rfl 45 zck (heap_alloc_new _ _) zi.out rfl zz.out ?_))
  refine bodyPost_ret (results_cell_tmp1 rfl _ _ w.heap.size 45 zck (0, 0) _ rfl (setRow_heap _ _ _ _ _ _ (heap_alloc_new _ _)) Tryz.underlying45 rfl zi.out) rfl ?_
  rw [e.out]
  exact ⟨⟨none, 0, rfl, fun _ => rfl, Nat.le_refl _, Sl.nil _ _⟩, below_setRow ((Below.refl _ _).alloc (Nat.le_refl _) _) _ (Nat.le_refl _) _⟩
theorem kp_ofDrew {S : Nat → Prop} {a w : World} (h : Kp S a.drew w) : Kp S a w := ⟨h.os, h.tape, h.output, h.size, h.block⟩
theorem next_step (l : Ln) (h : (nextI l wParent).2.1 = true) : (nextI l wParent).2.2.s.length + 1 ≤ l.s.length := by
  obtain ⟨v, r, e1, _, e⟩ := next_ok h
  rw [e, e1]
  simp
  omega
theorem pars_go (k : Nat) (l : Ln) (h : (nextI l wParent).2.1 = true) :
    parsI (k + 1) l = ((idI (nextI l wParent).2.2 (nextI l wParent).1).1 :: (parsI k (idI (nextI l wParent).2.2 (nextI l wParent).1).2).1, (parsI k (idI (nextI l wParent).2.2 (nextI l wParent).1).2).2) := by
  conv => lhs; unfold parsI
  rw [if_pos h]
theorem pars_end (k : Nat) (l : Ln) (h : (nextI l wParent).2.1 = false) : parsI k l = ([], l) := by
  cases k with
  | zero => rfl
  | succ k =>
    unfold parsI
    rw [if_neg (by rw [h]; decide)]
theorem ccell_set {t : List UInt8} (h : t.length = 20) (v u : Value) : (ccell (ck0 t v)).toArray.setIfInBounds 20 u = (ccell (ck0 t u)).toArray := by
  have hl : (bvs t).length = 20 := by simp [h]
  apply Array.ext'
  rw [Array.toList_setIfInBounds]
  simp only [ccell]
  rw [List.set_append_right _ _ (by rw [hl]; decide), hl]
  rfl
theorem ccell_set3 {t a c m : List UInt8} (h : t.length = 20) (v : Value) (x : List UInt8) : (ccell ⟨t, v, a, c, m⟩).toArray.setIfInBounds 21 (.string (bstr x)) = (ccell ⟨t, v, x, c, m⟩).toArray ∧
    (ccell ⟨t, v, a, c, m⟩).toArray.setIfInBounds 22 (.string (bstr x)) = (ccell ⟨t, v, a, x, m⟩).toArray ∧ (ccell ⟨t, v, a, c, m⟩).toArray.setIfInBounds 23 (.string (bstr x)) = (ccell ⟨t, v, a, c, x⟩).toArray := by
  have hl : (bvs t).length = 20 := by simp [h]
  refine ⟨?_, ?_, ?_⟩ <;> (apply Array.ext'; rw [Array.toList_setIfInBounds]; simp only [ccell]; rw [List.set_append_right _ _ (by rw [hl]; decide), hl]; rfl)
theorem ccell_sz {k : Ck} (h : k.tree.length = 20) {j : Nat} (hj : j < 24) : j < (ccell k).toArray.size := by
  rw [show (ccell k).toArray.size = 24 by simp [ccell_len h]]; exact hj
theorem sl_setRow {w : World} {A : Option Addr} {l : List Value} (h : Sl w A l) (g : Nat) (c : Array Value) (hA : ∀ ad, A = some ad → ad.block ≠ g) : Sl (w.setRow g c) A l :=
  h.kp (S := fun k => k = g) ⟨rfl, rfl, rfl, by simp, fun i hi hs => setRow_other _ _ _ _ hs⟩ hA
theorem step_world {w wr w1 w2 : World} {g g5 n2 cp2 : Nat} {t y : List UInt8} {ps : List (List UInt8)} {pv : Value} {l2 : Ln} {A2 : Option Addr} {cs : List Value} (h20 : t.length = 20) (hgw : w.heap.size < g) (hg5 : g < g5) (hbw : Below w.heap.size w wr)
    (h0r : wr.heap[w.heap.size]? = some (.cells zck 45 (0, 0))) (hrow : wr.heap[g5]? = some (.cells (ccell (ck0 t pv)).toArray 45 (0, 0))) (hwin : Win wr (g5 + 1) 27 20 pv ps.length (idc ps))
    (k1 : Kp (fun k => k = g) wr w1) (l1 : LRow w1 g l2) (hw2 : Win w2 (g5 + 1) 27 20 (.slice A2 n2 cp2) n2 cs) (hk2 : Kp (fun k => pv.ownBlock = some k) (w1.alloc (.cells (bvs y).toArray 27)) w2) :
    (w2.setCell ⟨g5, 20, none⟩ (.slice A2 n2 cp2)).heap[g5]? = some (.cells (ccell (ck0 t (.slice A2 n2 cp2))).toArray 45 (0, 0)) ∧ LRow (w2.setCell ⟨g5, 20, none⟩ (.slice A2 n2 cp2)) g l2 ∧
      Win (w2.setCell ⟨g5, 20, none⟩ (.slice A2 n2 cp2)) (g5 + 1) 27 20 (.slice A2 n2 cp2) n2 cs ∧ Below w.heap.size w (w2.setCell ⟨g5, 20, none⟩ (.slice A2 n2 cp2)) ∧ (w2.setCell ⟨g5, 20, none⟩ (.slice A2 n2 cp2)).heap[w.heap.size]? = some (.cells zck 45 (0, 0)) := by
  have hown : ∀ q, pv.ownBlock = some q → g5 + 1 ≤ q := fun q hq => (hwin.block q hq).1
  have s5 : g5 < wr.heap.size := (Array.getElem?_eq_some_iff.1 hrow).1
  have ka : Below w1.heap.size w1 (w1.alloc (.cells (bvs y).toArray 27)) := (Below.refl _ _).alloc (Nat.le_refl _) _
  have each : ∀ q, q < g5 + 1 → w2.heap[q]? = w1.heap[q]? := fun q hq => by
    have s1 := k1.size
    rw [hk2.block q (by have := ka.size; omega) (fun e => by have := hown q e; omega)]
    exact ka.block q (by omega)
  have e5 : w2.heap[g5]? = some (.cells (ccell (ck0 t pv)).toArray 45 (0, 0)) := (each g5 (by omega)).trans ((k1.block g5 s5 (by omega)).trans hrow)
  have b1 : Below w.heap.size w w1 := hbw.trans (k1.toBelow hbw.size (fun k hk e => by omega))
  have b2 : Below w.heap.size w w2 := b1.trans ((ka.mono b1.size).trans (hk2.toBelow (Nat.le_trans b1.size ka.size) (fun k hk e => by have := hown k e; omega)))
  refine ⟨?_, ?_, ?_, ?_, ?_⟩
  · rw [heap_setCell_same _ _ _ _ _ _ e5, ccell_set h20]
  · exact (heap_setCell_ne _ _ _ _ (by simp; omega)).trans ((each g (by omega)).trans l1)
  · exact hw2.kp (Kp.setCell (Kp.refl (fun k => k = g5) _) (.inl rfl) _) (fun q hq e => by have := (hw2.block q hq).1; omega)
  · exact b2.trans (Kp.toBelow (Kp.setCell (Kp.refl (fun k => k = g5) _) (.inl rfl) _) b2.size (fun k hk e => by omega))
  · exact (heap_setCell_ne _ _ _ _ (by simp; omega)).trans ((each _ (by omega)).trans ((k1.block _ (by omega) (by omega)).trans h0r))
def mDec (g : Nat) (t7 : Value) (wr : World) : Nat := match wr.cell? ⟨g, 0, none⟩ with | some (.string s) => s.size + (match t7 with | .bool true => 1 | _ => 0) | _ => 0
theorem mDec_of {g : Nat} {w : World} {l : Ln} (h : LRow w g l) (ok : Bool) : mDec g (.bool ok) w = l.s.length + (if ok = true then 1 else 0) := by
  have hc : w.cell? ⟨g, 0, none⟩ = some (.string (bstr l.s)) := by rw [cell_of_row _ _ _ _ _ _ h]; rfl
  unfold mDec
  rw [hc]
  cases ok <;> simp [bstr_size]
/-- the loop over the parents: what holds behind each 'next' -/
def DRel (R : List (List UInt8) × Ln) (t : List UInt8) (g g5 : Nat) (w : World) (t6 t7 : Value) (wr : World) : Prop :=
  ∃ (ps : List (List UInt8)) (l : Ln) (k : Nat) (pv : Value), t6 = .string (bstr (nextI l wParent).1) ∧ t7 = .bool (nextI l wParent).2.1 ∧ LRow wr g (nextI l wParent).2.2 ∧ l.s.length < k ∧ ps.length + l.s.length ≤ 12000 ∧
    wr.heap[g5]? = some (.cells (ccell (ck0 t pv)).toArray 45 (0, 0)) ∧ Win wr (g5 + 1) 27 20 pv ps.length (idc ps) ∧ All20 ps ∧ R = (ps ++ (parsI k l).1, (parsI k l).2) ∧ Below w.heap.size w wr
theorem decC_any (b : List UInt8) (hb : b.length ≤ 12000) (A : Option Addr) (cap : Nat) (w : World) (hg : Gb w) (hA : Bs w A b) :
    Calls Tryz.prog 31 #[.slice A b.length cap] w (OutC (decC b).1 (decC b).2 w) := by
  obtain ⟨n, hn⟩ : ∃ n, n = b.length := ⟨_, rfl⟩
  rw [← hn]
  have hn1 : n ≤ 12000 := by omega
  obtain ⟨W0, hW0⟩ : ∃ W0, W0 = w.alloc (.cells zck 45) := ⟨_, rfl⟩
  have b0 : Below w.heap.size w W0 := by rw [hW0]; exact (Below.refl _ _).alloc (Nat.le_refl _) _
  have r0 : W0.heap[w.heap.size]? = some (.cells zck 45 (0, 0)) := by rw [hW0]; exact heap_alloc_new _ _
  have hcv := conv34 (c := cap) (hA.below b0) hn
  have hs0 : W0.heap.size = w.heap.size + 1 := by rw [hW0]; simp
  obtain ⟨g, hgg⟩ : ∃ g, g = W0.heap.size := ⟨_, rfl⟩
  obtain ⟨W1, hW1⟩ : ∃ W1, W1 = W0.alloc (.cells #[.string (bstr b), .bool false] 128) := ⟨_, rfl⟩
  have b01 : Below W0.heap.size W0 W1 := by rw [hW1]; exact (Below.refl _ _).alloc (Nat.le_refl _) _
  have b1 := b0.trans (b01.mono b0.size)
  have l1 : LRow W1 g ⟨b, false⟩ := by rw [hW1, hgg]; exact heap_alloc_new _ _
  have r1 := (b01.block _ (Array.getElem?_eq_some_iff.1 r0).1).trans r0
  have g1 : w.heap.size < g := by omega
  obtain ⟨t, ht⟩ : ∃ t, t = mustI ⟨b, false⟩ wTree := ⟨_, rfl⟩
  obtain ⟨i, hi⟩ : ∃ i, i = idI t.2 t.1 := ⟨_, rfl⟩
  have htl : t.2.s.length ≤ b.length ∧ t.1.length ≤ b.length := by rw [ht]; exact must_len ⟨b, false⟩ wTree
  have hil : i.2.s.length ≤ b.length ∧ i.1.length = 20 := by
    rw [hi]
    exact ⟨htl.1, parseI_len _⟩
  have km : ∀ w, Gb w → LRow w g ⟨b, false⟩ → Calls Tryz.prog 74 #[.pointer (some ⟨g, 0, none⟩), .string ⟨#[116, 114, 101, 101, 32]⟩] w fun e w' => e = .returned (.string (bstr t.1)) ∧ LRow w' g t.2 ∧ Kp (fun k => k = g) w w' := fun w hg hr => by
    have := lmust_any g ⟨b, false⟩ wTree (by show b.length ≤ _; omega) w hg hr
    rw [← ht] at this
    exact this
  have ki : ∀ w, LRow w g t.2 → Calls Tryz.prog 73 #[.pointer (some ⟨g, 0, none⟩), .string (bstr t.1)] w fun e w' => e = .returned (idv i.1) ∧ LRow w' g i.2 ∧ Kp (fun k => k = g) w w' := fun w hr => by
    have := idl_any g t.2 t.1 (by omega) w hr
    rw [← hi] at this
    exact this
  have kn : ∀ w l, l.s.length ≤ 12000 → Gb w → LRow w g l → Calls Tryz.prog 75 #[.pointer (some ⟨g, 0, none⟩), .string ⟨#[112, 97, 114, 101, 110, 116, 32]⟩] w fun e w' => e = .returned (.tuple #[.string (bstr (nextI l wParent).1), .bool (nextI l wParent).2.1]) ∧ LRow w' g (nextI l wParent).2.2 ∧ Kp (fun k => k = g) w w' := fun w l hl hg hr =>
    lnext_any g l wParent (by omega) w hg hr
  have hraw : decCraw b = (⟨i.1, (parsI (n + 1) i.2).1, (mustI (parsI (n + 1) i.2).2 wAuthor).1, (mustI (mustI (parsI (n + 1) i.2).2 wAuthor).2 wCommitter).1, (emptyI (mustI (mustI (parsI (n + 1) i.2).2 wAuthor).2 wCommitter).2).s⟩, emptyI (mustI (mustI (parsI (n + 1) i.2).2 wAuthor).2 wCommitter).2) := by
    rw [hi, ht, hn]; rfl
  have hdec : decC b = if ((decCraw b).2.bad || wrongC (decCraw b).1) = true then (noCm, 2) else ((decCraw b).1, 0) := by
    unfold decC; rw [if_neg (by omega)]
  have zc := infoC (k := ck0 i.1 (.slice none 0 0)) hil.2
  have zs := zck_size (k := ck0 i.1 (.slice none 0 0)) hil.2
  have zo := ccell_one (k := ck0 i.1 (.slice none 0 0)) rfl
  have H20 := hil.2
  have hl2 : i.2.s.length ≤ n := by omega
  have HW0 := Lib.hid hW0; have HW1 := Lib.hid hW1; have HB1 := Lib.hid b1; have L1 := Lib.hid l1; have R1 := Lib.hid r1; have HGG := Lib.hid hgg; have HGL := Lib.hid g1; have KM := Lib.hid km; have KI := Lib.hid ki; have KN := Lib.hid kn
  have HN := Lib.hid hn; have HG := Lib.hid hg; have HR := Lib.hid hraw; have HD := Lib.hid hdec; have ZC := Lib.hid zc; have ZS := Lib.hid zs; have ZO := Lib.hid zo; have HI20 := Lib.hid H20; have HL2 := Lib.hid hl2
  have G1W := HG.out.below b1
  clear hW0 b0 r0 hn hs0 hA hb hg hW1 b01 b1 l1 r1 hgg g1 ht hi htl hil km ki kn hraw hdec zc zs zo H20 hl2
  go_enter Tryz.func31, Tryz.ntmps31
  go_upto_region 1 with fail
  simp only [zcklit]
  rw [← HW0.out]
  go_upto_region 4 with fail
  rw [← HGG.out, ← HW1.out]
  go_upto_region 5 with (first
    | (go_at_call 74; (with_reducible refine (KM.out _ G1W L1.out).mono ?_); rintro e w2 ⟨rfl, l2, k2⟩)
    | (go_at_call 73; (with_reducible refine (KI.out _ l2).mono ?_); rintro e w3 ⟨rfl, l3, k3⟩)
    | (refine wpList_buildC rfl (.tmp 19) rfl i.1 HI20.out rfl ?_)
    | (simp only [zcklit]; refine wpList_store_row rfl 45 (.tmp 5) (.tmp 20) rfl w3.heap.size (ccell (ck0 i.1 (.slice none 0 0))).toArray rfl rfl 45 zck (heap_alloc_new _ _) ZC.out ZS.out ZO.out ?_))
  obtain ⟨r4, b4⟩ := new_set w3 45 zck (ccell (ck0 i.1 (.slice none 0 0))).toArray
  obtain ⟨W4, hW4⟩ : ∃ W4, W4 = (w3.alloc (.cells zck 45)).setRow w3.heap.size (ccell (ck0 i.1 (.slice none 0 0))).toArray := ⟨_, rfl⟩
  rw [← hW4] at r4 b4
  simp only [Act.put]
  rw [← hW4]
  obtain ⟨g5, hg5⟩ : ∃ g5, g5 = w3.heap.size := ⟨_, rfl⟩
  rw [← hg5] at r4 ⊢
  have k4 := (Kp.trans k2 k3)
  have gs1 : g < W1.heap.size := (Array.getElem?_eq_some_iff.1 L1.out).1
  have gg5 : g < g5 := by have := k4.size; omega
  have bw3 : Below w.heap.size w w3 := HB1.out.trans (k4.toBelow HB1.out.size (fun k hk e => by have := HGL.out; omega))
  have bw4 := bw3.trans (b4.mono bw3.size)
  have l4 : LRow W4 g i.2 := (b4.block g (by omega)).trans l3
  have r04 : W4.heap[w.heap.size]? = some (.cells zck 45 (0, 0)) := by
    have h1 := HGL.out
    exact (b4.block _ (by omega)).trans ((k4.block _ (by omega) (by omega)).trans R1.out)
  have h54 : g5 + 1 ≤ W4.heap.size := by
    have := (Array.getElem?_eq_some_iff.1 r4).1
    omega
  have R4 := Lib.hid r4; have BW4 := Lib.hid bw4; have L4 := Lib.hid l4; have R04 := Lib.hid r04; have GG5 := Lib.hid gg5; have H54 := Lib.hid h54; have HG5 := Lib.hid hg5
  have G4 := HG.out.below bw4
  have kn4 := KN.out W4 i.2 (by have := HL2.out; omega) G4 L4.out
  clear r4 b4 hW4 hg5 k4 gs1 gg5 bw3 bw4 l4 r04 h54 k2 k3 l2 l3 G1W
  go_upto_block 0 with (first
    | (go_at_call 75; (with_reducible refine kn4.mono ?_); rintro e w5 ⟨rfl, l5, k5⟩))
  have bw5 : Below w.heap.size w w5 := BW4.out.trans (k5.toBelow BW4.out.size (fun k hk e => by have := HGL.out; omega))
  have r5 : w5.heap[g5]? = _ := (k5.block g5 (by have := H54.out; omega) (by have := GG5.out; omega)).trans R4.out
  have hrel0 : DRel (parsI (n + 1) i.2) i.1 g g5 w (.string (bstr (nextI i.2 wParent).1)) (.bool (nextI i.2 wParent).2.1) w5 :=
    ⟨[], i.2, n + 1, .slice none 0 0, rfl, rfl, l5, by have := HL2.out; omega, by have := HL2.out; simp; omega, r5, Win.nil _ _ _ _, fun x hx => by simp at hx, rfl, bw5⟩
  have HREL := Lib.hid hrel0
  have r05 := Lib.hid ((k5.block w.heap.size (by have := H54.out; have := GG5.out; have := HGL.out; omega) (by have := HGL.out; omega)).trans R04.out)
  clear hrel0 r5 bw5 l5 k5 kn4 G4
  go_wp2
  go_loopw [6, 7] (fun t6 t7 wr => DRel (parsI (n + 1) i.2) i.1 g g5 w t6 t7 wr ∧ wr.heap[w.heap.size]? = some (.cells zck 45 (0, 0))) (fun t6 t7 wr => mDec g t7 wr)
  case atStart => exact ⟨HREL.out, r05.out⟩
  case round =>
    obtain ⟨⟨ps, l, k, pv, rfl, rfl, hl, hk, hps, hrow, hwin, h20, hR, hbw⟩, h0r⟩ := hrel
    by_cases hnx : (nextI l wParent).2.1 = true
    · have hst := next_step l hnx
      have hgo := fun k' => pars_go k' l hnx
      obtain ⟨k', rfl⟩ : ∃ k', k = k' + 1 := ⟨k - 1, by omega⟩
      rw [hgo k'] at hR
      clear hgo
      obtain ⟨nx, hx⟩ : ∃ nx, nx = nextI l wParent := ⟨_, rfl⟩
      rw [← hx] at hl hnx hst hR ⊢
      obtain ⟨v, ok, l'⟩ := nx
      dsimp only at hl hnx hst hR ⊢
      subst hnx
      have hvl : v.length ≤ 12000 := by
        have := (next_len l wParent).2
        rw [← hx] at this
        dsimp only at this
        omega
      obtain ⟨id, hid⟩ : ∃ id, id = idI l' v := ⟨_, rfl⟩
      have ki := fun w h => idl_any g l' v (by omega) w h
      rw [← hid] at ki hR
      have hy20 : id.1.length = 20 := by rw [hid]; exact parseI_len v
      have hls : id.2.s = l'.s := by rw [hid]; rfl
      obtain ⟨y, l2⟩ := id
      dsimp only at ki hR hy20 hls
      have h24 := (ccell_at (k := ck0 i.1 pv) HI20.out).1
      have c20 : wr.cell? ⟨g5, 20, none⟩ = some pv := by
        rw [cell_of_row _ _ _ _ _ _ hrow]
        simpa using h24
      have f20 : wr.frozen? ⟨g5, 20, none⟩ = false := frozen_of_row _ _ _ _ _ hrow
      have hgw : g < wr.heap.size := (Array.getElem?_eq_some_iff.1 hl).1
      have hg5w : g5 < wr.heap.size := (Array.getElem?_eq_some_iff.1 hrow).1
      have hnew : ∀ w1, Kp (fun k => k = g) wr w1 → Win (w1.alloc (.cells (bvs y).toArray 27)) (g5 + 1) 27 20 pv ps.length (idc ps) := fun w1 h =>
        (hwin.kp h (fun q hq e => by have := (hwin.block q hq).1; have := GG5.out; omega)).below ((Below.refl _ _).alloc (Nat.le_refl _) _)
      have hc1 : ∀ w1, Kp (fun k => k = g) wr w1 → w1.cell? ⟨g5, 20, none⟩ = some pv := fun w1 h => h.cell c20 (by have := GG5.out; simp; omega)
      have hc3 : ∀ w1, Kp (fun k => k = g) wr w1 → (w1.alloc (.cells (bvs y).toArray 27)).cell? ⟨g5, 20, none⟩ = some pv := fun w1 h =>
        (((Below.refl w1.heap.size w1).alloc (Nat.le_refl _) _).cell (World.block_lt_of_cell? w1 _ (hc1 w1 h))).trans (hc1 w1 h)
      have hc2 : ∀ w1 w2 v2, Kp (fun k => k = g) wr w1 → Kp (fun k => pv.ownBlock = some k) (w1.alloc (.cells (bvs y).toArray 27)) w2 → v2 = true → w2.heap[g5]? = some (.cells (ccell (ck0 i.1 pv)).toArray 45 (0, 0)) := fun w1 w2 v2 h h2 _ => by
        have e1 := h.block g5 hg5w (by have := GG5.out; omega)
        have e2 := h2.block g5 (by have := h.size; simp; omega) (fun e => by have := (hwin.block g5 e).1; omega)
        rw [e2, Below.heap_alloc _ _ _ (by have := h.size; omega), e1, hrow]
      have HX := Lib.hid hx; have HST := Lib.hid hst; have HL := Lib.hid hl; have HRR := Lib.hid hR; have HROW := Lib.hid hrow; have HWIN := Lib.hid hwin; have HNEW := Lib.hid hnew; have HC1 := Lib.hid hc1; have HC2 := Lib.hid hc2; have HC3 := Lib.hid hc3; have H2 := Lib.hid h20; have HY := Lib.hid hy20; have HLS := Lib.hid hls; have HBW := Lib.hid hbw; have H0R := Lib.hid h0r; have KI2 := Lib.hid ki; have HG5W := Lib.hid hg5w; have HGW := Lib.hid hgw
      have fl := fold_lit y HY.out
      rw [← zlit] at fl
      clear hx hst hl hR hrow hwin hnew hc1 hc2 hc3 h20 hy20 hls hbw h0r ki hg5w hgw h24
      go_upto_region 8 with fail
      have hyl := HY.out
      have hld : LRow wr.drew g l' := HL.out
      have cd : wr.drew.cell? ⟨g5, 20, none⟩ = some pv := c20
      (go_region_law (first
            | (go_simp; go_at_call 73; (with_reducible refine (KI2.out _ hld).mono ?_); rintro e w1 ⟨rfl, l1, k1d⟩; have k1 := kp_ofDrew k1d; have c1 := HC1.out w1 k1; have c1a := HC3.out w1 k1)
            | (go_must (refine step_appI rfl (.tmp 33) (.tmp 37) rfl (g5 + 1) pv ps rfl (HNEW.out w1 k1) (some ⟨w1.heap.size, 0, none⟩) 1 1 [y] rfl (fun x hx => by rw [List.mem_singleton.1 hx]; exact HY.out) rfl (Sl.of_block (heap_alloc_new _ _) (fun j u hj => by simpa [idc] using hj)) (by simp; omega) (by have := HG5W.out; have := k1.size; simp; omega) ?_)
               intro v2 w2 hw2 hk2 ho2
               obtain ⟨A2, cp2, rfl, hc2, hm2, _⟩ := hw2.reads
               have r2 := HC2.out w1 w2 true k1 hk2 rfl
               have c2 : w2.cell? ⟨g5, 20, none⟩ = some pv := by rw [cell_of_row _ _ _ _ _ _ r2]; simpa using (ccell_at (k := ck0 i.1 pv) HI20.out).1
               have f2 : w2.frozen? ⟨g5, 20, none⟩ = false := frozen_of_row _ _ _ _ _ r2
               have R2 := Lib.hid r2
               clear r2)))
      all_goals
        obtain ⟨q1, q2, q3, q4, q5⟩ := step_world HI20.out HGL.out GG5.out HBW.out H0R.out HROW.out HWIN.out k1 l1 hw2 hk2
        rw [List.length_append, List.length_singleton] at q1 q2 q3 q4 q5
        obtain ⟨W3, hW3⟩ : ∃ W3, W3 = w2.setCell ⟨g5, 20, none⟩ (.slice A2 (ps.length + 1) cp2) := ⟨_, rfl⟩
        rw [← hW3] at q1 q2 q3 q4 q5 ⊢
        have kn3 := KN.out W3 l2 (by have := HLS.out; rw [this]; have := HST.out; omega) (HG.out.below q4) q2
        have Q1 := Lib.hid q1; have Q2 := Lib.hid q2; have Q3 := Lib.hid q3; have Q4 := Lib.hid q4; have Q5 := Lib.hid q5
        clear q1 q2 q3 q4 q5 hW3 c2 f2 hw2 hk2 ho2 hc2 hm2 R2 hld cd c1 c1a k1 l1 k1d fl c20 f20
        go_wp2_with (go_at_call 75; (with_reducible refine kn3.mono ?_); rintro e w6 ⟨rfl, l6, k6⟩)
        go_roundw
        case rel =>
          have s3 := (Array.getElem?_eq_some_iff.1 Q1.out).1
          refine ⟨⟨ps ++ [y], l2, k', _, rfl, rfl, l6, by rw [HLS.out]; have := HST.out; omega, by rw [HLS.out, List.length_append, List.length_singleton]; have := HST.out; omega, (k6.block g5 s3 (by have := GG5.out; omega)).trans Q1.out, ?_, ?_, ?_, Q4.out.trans (k6.toBelow Q4.out.size (fun q hq e => by have := HGL.out; omega))⟩, ?_⟩
          · rw [List.length_append, List.length_singleton, idc_app]
            have := Q3.out.kp k6 (fun q hq e => by have := (Q3.out.block q hq).1; have := GG5.out; omega)
            rwa [idc_app] at this
          · intro x hx
            rcases List.mem_append.1 hx with hx | hx
            · exact H2.out x hx
            · rw [List.mem_singleton.1 hx]; exact HY.out
          · rw [HRR.out]
            simp
          · exact (k6.block _ (Nat.lt_of_lt_of_le (by have := HGL.out; have := GG5.out; omega) (Nat.le_of_lt s3)) (by have := HGL.out; omega)).trans Q5.out
        case measure =>
          rw [mDec_of l6, mDec_of HL.out]
          have h1 := next_len l2 wParent
          have h2 := next_step l2
          rw [HLS.out] at h1 h2
          rw [if_pos rfl]
          cases hq : (nextI l2 wParent).2.1 with
          | true => have := h2 hq; rw [if_pos rfl]; omega
          | false => rw [if_neg (by decide)]; omega
    · have hq : (nextI l wParent).2.1 = false := by simpa using hnx
      have hno := next_not hq
      rw [pars_end k l hq, List.append_nil] at hR
      rw [hno] at hl
      obtain ⟨am, ham⟩ : ∃ am, am = mustI l wAuthor := ⟨_, rfl⟩
      obtain ⟨cm, hcm⟩ : ∃ cm, cm = mustI am.2 wCommitter := ⟨_, rfl⟩
      obtain ⟨em, hem⟩ : ∃ em, em = emptyI cm.2 := ⟨_, rfl⟩
      have hraw : decCraw b = (⟨i.1, ps, am.1, cm.1, em.s⟩, em) := by rw [HR.out, hR]; dsimp only; rw [← ham, ← hcm, ← hem]
      obtain ⟨C, hC⟩ : ∃ C, C = (⟨i.1, ps, am.1, cm.1, em.s⟩ : Cm) := ⟨_, rfl⟩
      rw [← hC] at hraw
      have hdec : decC b = if (em.bad || wrongC C) = true then (noCm, 2) else (C, 0) := by rw [HD.out, hraw]
      have la : am.2.s.length ≤ 12000 ∧ am.1.length ≤ 12000 := by have := must_len l wAuthor; rw [← ham] at this; omega
      have lc : cm.2.s.length ≤ 12000 ∧ cm.1.length ≤ 12000 := by have := must_len am.2 wCommitter; rw [← hcm] at this; omega
      have le : em.s.length ≤ 12000 := by
        have := (must_len cm.2 []).1
        rw [hem]
        show (mustI cm.2 []).2.s.length ≤ 12000
        omega
      have ka : ∀ w, Gb w → LRow w g l → Calls Tryz.prog 74 #[.pointer (some ⟨g, 0, none⟩), .string ⟨#[97, 117, 116, 104, 111, 114, 32]⟩] w fun e w' => e = .returned (.string (bstr am.1)) ∧ LRow w' g am.2 ∧ Kp (fun k => k = g) w w' := fun w hg hr => by
        have := lmust_any g l wAuthor (by omega) w hg hr
        rw [← ham] at this
        exact this
      have kc : ∀ w, Gb w → LRow w g am.2 → Calls Tryz.prog 74 #[.pointer (some ⟨g, 0, none⟩), .string ⟨#[99, 111, 109, 109, 105, 116, 116, 101, 114, 32]⟩] w fun e w' => e = .returned (.string (bstr cm.1)) ∧ LRow w' g cm.2 ∧ Kp (fun k => k = g) w w' := fun w hg hr => by
        have := lmust_any g am.2 wCommitter (by omega) w hg hr
        rw [← hcm] at this
        exact this
      have ke : ∀ w, Gb w → LRow w g cm.2 → Calls Tryz.prog 76 #[.pointer (some ⟨g, 0, none⟩)] w fun e w' => e = .returned (.tuple #[]) ∧ LRow w' g em ∧ Kp (fun k => k = g) w w' := fun w hg hr => by
        have := lempty_any g cm.2 (by omega) w hg hr
        rw [← hem] at this
        exact this
      obtain ⟨A1, c1, rfl, hc1, hm1, hs1⟩ := hwin.reads
      have hnull : A1 = none → c1 = 0 := win_null hwin
      have hA1 : ∀ ad, A1 = some ad → ¬ (ad.block = g ∨ ad.block = g5) := fun ad e h => by
        have := (hwin.block ad.block (by rw [e]; rfl)).1
        have := GG5.out
        omega
      have hA2 : ∀ ad, A1 = some ad → w.heap.size < ad.block := fun ad e => by
        have := (hwin.block ad.block (by rw [e]; rfl)).1
        have := GG5.out
        have := HGL.out
        omega
      have HA2 := Lib.hid hA2
      clear hA2
      have kw : em.bad = false → ∀ w, Sl w A1 (idc ps) → Calls Tryz.prog 62 #[cv (ck C (.slice A1 ps.length c1))] w fun e w' => e = .returned (.bool (wrongC C)) ∧ Below w.heap.size w w' := fun hb w hs => by
        have hok := raw_ok (b := b) (by rw [hraw]; exact hb)
        rw [hraw] at hok
        have hsz := parB_size ps h20
        have hlen := congrArg List.length hok.1
        rw [cmB_eq, List.length_append, List.length_append] at hlen
        have hps' : ps.length < 256 := by
          rw [hC] at hlen
          dsimp only at hlen
          have := HN.out
          omega
        have := wrong_any C (by rw [hC]; exact HI20.out) (by rw [hC]; exact h20) (by rw [hC]; exact hps') (by rw [hC]; dsimp only; omega) (by rw [hC]; dsimp only; omega) A1 c1 hnull w (by rw [hC]; exact hs)
        rw [hC] at this ⊢
        exact this
      have s5 : g5 < wr.heap.size := (Array.getElem?_eq_some_iff.1 hrow).1
      obtain ⟨m, hm⟩ : ∃ m, m = ps.length := ⟨_, rfl⟩
      rw [← hm] at kw hrow
      have HROW := Lib.hid hrow; have HL := Lib.hid hl; have KA := Lib.hid ka; have KC := Lib.hid kc; have KE := Lib.hid ke; have HDEC := Lib.hid hdec; have KW := Lib.hid kw; have HCC := Lib.hid hC; have HS1 := Lib.hid hs1; have HNULL := Lib.hid hnull; have HM := Lib.hid hm; have HBW := Lib.hid hbw; have H0R := Lib.hid h0r; have HA1 := Lib.hid hA1; have S5 := Lib.hid s5; have HC1 := Lib.hid hc1; have H2 := Lib.hid h20
      have CS := Lib.hid (fun a c m v x => ccell_set3 (t := i.1) (a := a) (c := c) (m := m) HI20.out v x)
      have gw := HG.out.below hbw
      simp only [hno]
      clear hno hnx hq hR hl ham hcm hem hraw hC hdec la lc le ka kc ke hs1 hnull kw hm hbw h0r hrow hwin h20 hA1 s5 hk hps hc1 hm1
      go_upto_region 12 with (first
        | (go_at_call 74; (with_reducible refine (KA.out _ gw HL.out).mono ?_); rintro e w6 ⟨rfl, l6, k6⟩
           have b6 := Lib.hid (HBW.out.trans (k6.toBelow HBW.out.size (fun q hq e => by have := HGL.out; omega)))
           have gw6 := HG.out.below b6.out
           have L6 := Lib.hid l6)
        | (go_at_call 74; (with_reducible refine (KC.out _ gw6 L6.out).mono ?_); rintro e w7 ⟨rfl, l7, k7⟩
           have k7' := Lib.hid (k6.trans k7)
           have r7 := Lib.hid ((k7'.out.block g5 S5.out (by have := GG5.out; omega)).trans HROW.out))
        | (refine wpList_storeC rfl 9 (fun w => by kernel_rfl) (.tmp 44) (.tmp 41) rfl g5 21 (.string (bstr am.1)) rfl rfl 45 _ r7.out (ccell_sz HI20.out (by decide)) rfl ?_
           intro w8 r8 k8 z8
           rw [(CS.out _ _ _ _ _).1] at r8
           have R8 := Lib.hid r8
           clear r8)
        | (refine wpList_storeC rfl 9 (fun w => by kernel_rfl) (.tmp 45) (.tmp 43) rfl g5 22 (.string (bstr cm.1)) rfl rfl 45 _ R8.out (ccell_sz HI20.out (by decide)) rfl ?_
           intro w9 r9 k9 z9
           rw [(CS.out _ _ _ _ _).2.1] at r9
           have k9' := Kp.trans k8 k9
           have l9 : Hid (LRow w9 g cm.2) := Lib.hid ((k9'.block g (by have := (Array.getElem?_eq_some_iff.1 l7).1; omega) (by have := GG5.out; omega)).trans l7)
           have kk9 := Lib.hid ((k7'.out.mono (T := fun k => k = g ∨ k = g5) (fun k h => .inl h)).trans (k9'.mono (fun k h => .inr h)))
           have b9 := Lib.hid (HBW.out.trans (kk9.out.toBelow HBW.out.size (fun q hq e => by have := HGL.out; have := GG5.out; omega)))
           have gw9 := HG.out.below b9.out
           have R9 := Lib.hid r9
           clear r9 k9')
        | (go_at_call 76
           go_loud ((with_reducible refine (KE.out _ gw9 l9.out).mono ?_); rintro e w10 ⟨rfl, l10, k10⟩
                    have c10 : w10.cell? ⟨g, 0, none⟩ = some (.string (bstr em.s)) := by rw [cell_of_row _ _ _ _ _ _ l10]; rfl
                    have R10 := Lib.hid ((k10.block g5 (Array.getElem?_eq_some_iff.1 R9.out).1 (by have := GG5.out; omega)).trans R9.out)))
        | (refine wpList_storeC rfl 9 (fun w => by kernel_rfl) (.tmp 52) (.tmp 51) rfl g5 23 (.string (bstr em.s)) rfl rfl 45 _ R10.out (ccell_sz HI20.out (by decide)) rfl ?_
           intro w11 r11 k11 z11
           rw [(CS.out _ _ _ _ _).2.2] at r11
           have R11 := Lib.hid r11
           clear r11))
      have kk11 := (kk9.out.trans (k10.mono (T := fun k => k = g ∨ k = g5) (fun k h => .inl h))).trans (k11.mono (fun k h => .inr h))
      have b11 := HBW.out.trans (kk11.toBelow HBW.out.size (fun q hq e => by have := HGL.out; have := GG5.out; omega))
      have l11 : LRow w11 g em := (k11.block g (by have := (Array.getElem?_eq_some_iff.1 l10).1; omega) (by have := GG5.out; omega)).trans l10
      have s11 := HS1.out.kp kk11 HA1.out
      have z11r := (kk11.block w.heap.size (by have := HGL.out; have := GG5.out; have := S5.out; omega) (by have := HGL.out; have := GG5.out; omega)).trans H0R.out
      have S11 : Sl w11 (some ⟨g5, 0, none⟩) (ccell (ck C (.slice A1 m c1))) := Sl.of_block R11.out (fun j v hj => by rw [HCC.out] at hj; simpa using hj)
      have cl : ∀ w', Below w11.heap.size w11 w' → w'.cell? ⟨g, 1, none⟩ = some (.bool em.bad) := fun w' h => by
        have hc : w11.cell? ⟨g, 1, none⟩ = some (.bool em.bad) := by rw [cell_of_row _ _ _ _ _ _ l11]; rfl
        exact (h.cell (World.block_lt_of_cell? w11 _ hc)).trans hc
      have lk : ∀ w', Below w11.heap.size w11 w' → (loadVar 45 ⟨g5, 0, none⟩).run Tryz.prog w' = .ok (cv (ck C (.slice A1 m c1))) w' := fun w' h => load_ck (by rw [HCC.out]; exact HI20.out) (S11.below h)
      have B11 := Lib.hid b11; have SS11 := Lib.hid s11; have Z11 := Lib.hid z11r; have CL := Lib.hid cl; have LK := Lib.hid lk
      have hcell : ∀ w', Below w11.heap.size w11 w' → w'.heap[g5]? = some (.cells (ccell ⟨i.1, .slice A1 m c1, am.1, cm.1, em.s⟩).toArray 45 (0, 0)) := fun w' h => (h.block _ (Array.getElem?_eq_some_iff.1 R11.out).1).trans R11.out
      have HCELL := Lib.hid hcell
      clear gw gw6 gw9 k6 k7 k8 k9 z8 z9 z11 k10 k11 l6 l7 l10 c10 kk11 b11 l11 s11 z11r S11 cl lk hcell
      cases hb : em.bad with
      | true =>
        have hd := HDEC.out
        rw [hb, Bool.true_or, if_pos rfl] at hd
        have HD2 := Lib.hid hd
        have zi := Lib.hid (infoC (k := ck0 zs20 (.slice none 0 0)) zs20_len)
        have zz : Hid (zck.all (·.oneCell') = true) := Lib.hid (by kernel_rfl)
        rw [hb] at CL
        clear hd hb KW LK
        have cb := CL.out w11 (Below.refl _ _)
        go_wp2_with (first
          | (refine wpList_buildC0 rfl rfl ?_)
          | (refine wpList_store_row rfl 45 (.tmp 2) (.tmp 61) rfl w.heap.size zck rfl rfl 45 zck Z11.out zi.out rfl zz.out ?_))
        refine bodyPost_ret (results_cell_tmp1 rfl _ _ w.heap.size 45 zck (0, 0) _ rfl (setRow_heap _ _ _ _ _ _ Z11.out) Tryz.underlying45 rfl zi.out) rfl ?_
        rw [HD2.out]
        exact ⟨⟨none, 0, rfl, fun _ => rfl, Nat.le_refl _, Sl.nil _ _⟩, below_setRow B11.out _ (Nat.le_refl _) _⟩
      | false =>
        have hd := HDEC.out
        have kw := KW.out hb w11 SS11.out
        rw [hb, Bool.false_or] at hd
        rw [hb] at CL
        have cb := CL.out w11 (Below.refl _ _)
        have lk1 := LK.out w11 (Below.refl _ _)
        have zi := Lib.hid (infoC (k := ck0 zs20 (.slice none 0 0)) zs20_len)
        have zz : Hid (zck.all (·.oneCell') = true) := Lib.hid (by kernel_rfl)
        have zk := Lib.hid (infoC (k := ck C (.slice A1 m c1)) (by rw [HCC.out]; exact HI20.out))
        have zl := Lib.hid (zck_size (k := ck C (.slice A1 m c1)) (by rw [HCC.out]; exact HI20.out))
        have zo := Lib.hid (ccell_one (k := ck C (.slice A1 m c1)) rfl)
        clear hb KW
        cases hw : wrongC C with
        | true =>
          rw [hw, if_pos rfl] at hd
          rw [hw] at kw
          have HD2 := Lib.hid hd
          clear hd hw
          go_wp2_with (first
            | (refine wpList_loadG 45 (.tmp 5) rfl ⟨g5, 0, none⟩ rfl _ lk1 rfl ?_)
            | (go_at_call 62; (with_reducible refine kw.mono ?_); rintro e w12 ⟨rfl, hb12⟩
               have Z12 := Lib.hid ((hb12.block _ (Array.getElem?_eq_some_iff.1 Z11.out).1).trans Z11.out))
            | (refine wpList_buildC0 rfl rfl ?_)
            | (refine wpList_store_row rfl 45 (.tmp 2) (.tmp 61) rfl w.heap.size zck rfl rfl 45 zck Z12.out zi.out rfl zz.out ?_))
          refine bodyPost_ret (results_cell_tmp1 rfl _ _ w.heap.size 45 zck (0, 0) _ rfl (setRow_heap _ _ _ _ _ _ Z12.out) Tryz.underlying45 rfl zi.out) rfl ?_
          rw [HD2.out]
          exact ⟨⟨none, 0, rfl, fun _ => rfl, Nat.le_refl _, Sl.nil _ _⟩, below_setRow (B11.out.trans (hb12.mono B11.out.size)) _ (Nat.le_refl _) _⟩
        | false =>
          rw [hw, if_neg (by decide)] at hd
          rw [hw] at kw
          have HD2 := Lib.hid hd
          clear hd hw
          go_wp2_with (first
            | (refine wpList_loadG 45 (.tmp 5) rfl ⟨g5, 0, none⟩ rfl _ lk1 rfl ?_)
            | (refine wpList_loadG 45 (.tmp 5) rfl ⟨g5, 0, none⟩ rfl _ lk2 rfl ?_)
            | (go_at_call 62; (with_reducible refine kw.mono ?_); rintro e w12 ⟨rfl, hb12⟩
               have lk2 := LK.out w12 hb12
               have Z12 := Lib.hid ((hb12.block _ (Array.getElem?_eq_some_iff.1 Z11.out).1).trans Z11.out))
            | (refine wpList_store_row rfl 45 (.tmp 2) (.tmp 62) rfl w.heap.size (ccell (ck C (.slice A1 m c1))).toArray rfl rfl 45 zck Z12.out zk.out zl.out zo.out ?_))
          refine bodyPost_ret (results_cell_tmp1 rfl _ _ w.heap.size 45 (ccell (ck C (.slice A1 m c1))).toArray (0, 0) _ rfl (setRow_heap _ _ _ _ _ _ Z12.out) Tryz.underlying45 rfl zk.out) rfl ?_
          rw [HD2.out]
          have b12 := B11.out.trans (hb12.mono B11.out.size)
          have hpar : C.parents = ps := by rw [HCC.out]
          refine ⟨⟨A1, c1, ?_, HNULL.out, by rw [hpar]; exact HC1.out, ?_⟩, below_setRow b12 _ (Nat.le_refl _) _⟩
          · rw [hpar, ← HM.out]; rfl
          · rw [hpar]
            exact sl_setRow (SS11.out.below hb12) _ _ (fun ad e h => by have := HA2.out ad e; omega)
end
section
open Go.RowKit
set_option maxRecDepth 100000
set_option maxHeartbeats 1000000
set_option linter.unusedVariables false
theorem word_sz (k : Int) : (bstr (wordI k) == ⟨#[]⟩) = decide (wordI k = []) := by
  by_cases h : wordI k = []
  · rw [decide_eq_true h, h]; rfl
  · rw [decide_eq_false h]
    exact bstr_ne h
theorem check_commit (b : List UInt8) (hb : b.length ≤ 12000) (A : Option Addr) (cap : Nat) (w : World) (hg : Gb w) (hA : Bs w A b) :
    Calls Tryz.prog 42 #[.int .i64 1, .slice A b.length cap] w fun e w' => e = .returned (.int .i64 ((decC b).2 : Nat)) ∧ Below w.heap.size w w' := by
  have kw : ∀ w, Calls Tryz.prog 16 #[.int .i64 1] w fun e w' => e = .returned (.string ⟨#[99, 111, 109, 109, 105, 116]⟩) ∧ w = w' := fun w => oword_any 1 w
  have kd := decC_any b hb A cap w hg hA
  obtain ⟨n, hn⟩ : ∃ n, n = b.length := ⟨_, rfl⟩
  rw [← hn] at kd ⊢
  have hn1 : n ≤ 12000 := by omega
  obtain ⟨c, hc⟩ : ∃ c, c = (decC b).1 := ⟨_, rfl⟩
  obtain ⟨er, her⟩ : ∃ er, er = (decC b).2 := ⟨_, rfl⟩
  rw [← hc, ← her] at kd
  rw [← her]
  clear hn hc her hb hA hg
  go_enter Tryz.func42, Tryz.ntmps42
  go_wp2_with (first
    | (go_at_call 16; (with_reducible refine (kw _).mono ?_); rintro e w1 ⟨rfl, rfl⟩)
    | (go_at_call 31; (with_reducible refine kd.mono ?_); rintro e w2 ⟨⟨A2, c2, rfl, _, _, _⟩, hb2⟩))
  go_ret
  exact ⟨rfl, hb2⟩
theorem check_blob (n : Nat) (hn : n ≤ 1073741824) (A : Option Addr) (cap : Nat) (w : World) :
    Calls Tryz.prog 42 #[.int .i64 3, .slice A n cap] w fun e w' => e = .returned (.int .i64 ((if 16384 < n then 5 else 0 : Nat) : Int)) ∧ w = w' := by
  have kw : ∀ w, Calls Tryz.prog 16 #[.int .i64 3] w fun e w' => e = .returned (.string ⟨#[98, 108, 111, 98]⟩) ∧ w = w' := fun w => oword_any 3 w
  by_cases h : 16384 < n
  · have e : Hid ((if 16384 < n then 5 else 0 : Nat) = 5) := Lib.hid (if_pos h)
    rw [e.out]
    clear e
    go_enter Tryz.func42, Tryz.ntmps42
    go_wp2_with (go_at_call 16; (with_reducible refine (kw _).mono ?_); rintro e w1 ⟨rfl, rfl⟩)
    go_ret
    exact ⟨rfl, rfl⟩
  · have e : Hid ((if 16384 < n then 5 else 0 : Nat) = 0) := Lib.hid (if_neg h)
    rw [e.out]
    clear e
    go_enter Tryz.func42, Tryz.ntmps42
    go_wp2_with (go_at_call 16; (with_reducible refine (kw _).mono ?_); rintro e w1 ⟨rfl, rfl⟩)
    go_ret
    exact ⟨rfl, rfl⟩
/-- a row of names and an error -/
def OutL (P : List (List UInt8) → Prop) (e : Nat) (w : World) (z : Ending) (w' : World) : Prop :=
  (∃ A n L cap, z = .returned (.tuple #[.slice A n cap, .int .i64 (e : Int)]) ∧ n = L.length ∧ P L ∧ n ≤ cap ∧ (A = none → cap = 0) ∧ All20 L ∧ Sl w' A (idc L)) ∧ Below w.heap.size w w'
theorem decC_20 (b : List UInt8) : (decC b).1.tree.length = 20 ∧ All20 (decC b).1.parents := by
  unfold decC
  split
  · exact ⟨by simp [noCm], fun x hx => by simp [noCm] at hx⟩
  · split
    · exact ⟨by simp [noCm], fun x hx => by simp [noCm] at hx⟩
    · rename_i h
      simp only [Bool.or_eq_true, not_or, Bool.not_eq_true] at h
      obtain ⟨_, h2, h3⟩ := raw_ok h.1
      exact ⟨h2, h3⟩
theorem decC_few (b : List UInt8) (hb : b.length ≤ 12000) : (decC b).1.parents.length ≤ 250 := by
  unfold decC
  rw [if_neg (by omega)]
  split
  · simp [noCm]
  · rename_i h
    simp only [Bool.or_eq_true, not_or, Bool.not_eq_true] at h
    obtain ⟨h1, _, h3⟩ := raw_ok h.1
    have hlen := congrArg List.length h1
    rw [cmB_eq, List.length_append, List.length_append, parB_size _ h3] at hlen
    dsimp only
    omega
theorem cedges_any (b : List UInt8) (hb : b.length ≤ 12000) (A : Option Addr) (cap : Nat) (w : World) (hg : Gb w) (hA : Bs w A b) :
    Calls Tryz.prog 86 #[.slice A b.length cap] w (OutL (fun L => L = (decC b).1.tree :: (decC b).1.parents) (decC b).2 w) := by
  have kd := decC_any b hb A cap w hg hA
  obtain ⟨h20, hp⟩ := decC_20 b
  have hfew := decC_few b hb
  obtain ⟨n, hn⟩ : ∃ n, n = b.length := ⟨_, rfl⟩
  rw [← hn] at kd ⊢
  obtain ⟨c, hc⟩ : ∃ c, c = (decC b).1 := ⟨_, rfl⟩
  obtain ⟨er, her⟩ : ∃ er, er = (decC b).2 := ⟨_, rfl⟩
  rw [← hc] at h20 hp hfew
  rw [← hc, ← her] at kd ⊢
  have H20 := Lib.hid h20; have HP := Lib.hid hp; have HF := Lib.hid hfew
  have fl := fold_lit c.tree h20
  rw [← zlit] at fl
  clear hn hc her hb hA hg hp hfew
  go_enter Tryz.func86, Tryz.ntmps86
  go_upto_region 2 with (first
    | (go_at_call 31; (with_reducible refine kd.mono ?_); rintro e w1 ⟨⟨A1, c1, rfl, hn1, hl1, hs1⟩, hb1⟩
       have zk := Lib.hid (infoC (k := ck c (.slice A1 c.parents.length c1)) H20.out)
       have zl := Lib.hid (zck_size (k := ck c (.slice A1 c.parents.length c1)) H20.out)
       have zo := Lib.hid (ccell_one (k := ck c (.slice A1 c.parents.length c1)) rfl))
    | (simp only [zcklit]; refine wpList_store_row rfl 45 (.tmp 4) (.tmp 9) rfl w1.heap.size (ccell (ck c (.slice A1 c.parents.length c1))).toArray rfl rfl 45 zck (heap_alloc_new _ _) zk.out zl.out zo.out ?_))
  obtain ⟨k, hk⟩ : ∃ k, k = ck c (.slice A1 c.parents.length c1) := ⟨_, rfl⟩
  rw [← hk] at zk zl zo ⊢
  have e20 : k.tree.length = 20 := by rw [hk]; exact H20.out
  obtain ⟨r2, b2⟩ := new_set w1 45 zck (ccell k).toArray
  obtain ⟨W2, hW2⟩ : ∃ W2, W2 = (w1.alloc (.cells zck 45)).setRow w1.heap.size (ccell k).toArray := ⟨_, rfl⟩
  rw [← hW2] at r2 b2
  try simp only [Act.put]
  rw [← hW2]
  have S2 : Sl W2 (some ⟨w1.heap.size, 0, none⟩) (ccell k) := Sl.of_block r2 (fun j v hj => by simpa using hj)
  have st : Sl W2 (some ⟨w1.heap.size, 0, none⟩) (bvs c.tree) := fun j v hj => S2 j v (by
      rw [hk]; unfold ccell
      rw [List.getElem?_append_left (by have := (List.getElem?_eq_some_iff.1 hj).1; simpa using this)]
      exact hj)
  have l1 := load_idT 27 (fun w => by kernel_rfl) (fun w => by kernel_rfl) c.tree H20.out _ W2 st
  obtain ⟨q1, _, _, _⟩ := ccell_at e20
  have c20 : W2.cell? ⟨w1.heap.size, 20, none⟩ = some (.slice A1 c.parents.length c1) := by have := ck_at S2 q1; rw [hk] at this; rwa [add_plain, Nat.zero_add] at this
  have b3 : Below W2.heap.size W2 (W2.alloc (.cells (bvs c.tree).toArray 27)) := (Below.refl _ _).alloc (Nat.le_refl _) _
  have c20' : (W2.alloc (.cells (bvs c.tree).toArray 27)).cell? ⟨w1.heap.size, 20, none⟩ = some (.slice A1 c.parents.length c1) := (b3.cell (World.block_lt_of_cell? W2 _ c20)).trans c20
  have own : Win (W2.alloc (.cells (bvs c.tree).toArray 27)) W2.heap.size 27 20 (.slice (some ⟨W2.heap.size, 0, none⟩) 1 1) [c.tree].length (idc [c.tree]) := Win.ofOwns (by
    have := World.ownsRow_lit (e := 27) (size := 20) (base := W2.heap.size) W2 (bvs c.tree).toArray 1 (Nat.le_refl _) (by unfold maxLen; omega) (by simp [H20.out])
    simpa [idc] using this)
  have OWN := Lib.hid own
  have hsp := Lib.hid ((hs1.below b2).below b3)
  have bb2 := Lib.hid (hb1.trans (b2.mono hb1.size))
  have B3 := Lib.hid b3
  have hyl := H20.out
  clear r2 b2 hW2 S2 st q1 c20 b3 own hs1 hb1 hk e20
  go_wp2_with (first
    | (refine wpList_loadG 27 (.tmp 11) rfl ⟨w1.heap.size, 0, none⟩ rfl (idv c.tree) l1 rfl ?_)
    | (refine wpList_appI rfl (.tmp 13) (.tmp 15) rfl W2.heap.size (.slice (some ⟨W2.heap.size, 0, none⟩) 1 1) [c.tree] rfl OWN.out A1 c1 c.parents.length c.parents rfl HP.out rfl hsp.out (by have := HF.out; simp; omega) (by simp) ?_
       intro v4 w4 hw4 hk4 ho4
       obtain ⟨A4, c4, rfl, hc4, hm4, hs4⟩ := hw4.reads))
  go_ret2
  have hb4 := bb2.out.trans ((B3.out.trans (hk4.toBelow B3.out.size (fun q hq e => by
    have e' : W2.heap.size = q := by simpa [Value.ownBlock] using e
    omega))).mono bb2.out.size)
  refine ⟨⟨A4, _, _, c4, rfl, ?_, rfl, ?_, win_null hw4, ?_, hs4⟩, hb4⟩
  · simp
  · simpa using hc4
  · intro x hx
    rcases List.mem_cons.1 hx with rfl | hx
    · exact H20.out
    · exact HP.out x hx
/-- names in order, each once -/
def SrtOf (l L : List (List UInt8)) : Prop := Ris L ∧ ∀ x, x ∈ L ↔ x ∈ l
theorem sorted_20 {w w' : World} {l L : List (List UInt8)} {A : Option Addr} (h : Sorted w w' l A L) (h20 : All20 l) : All20 L := fun x hx => h20 x ((h.mem x).1 hx)
theorem sl_null {w : World} {L : List (List UInt8)} (h : Sl w none (idc L)) (h20 : All20 L) : L.length = 0 := by
  rw [sl_none h h20]; rfl
theorem edges_commit (b : List UInt8) (hb : b.length ≤ 12000) (A : Option Addr) (cap : Nat) (w : World) (hg : Gb w) (hA : Bs w A b) :
    Calls Tryz.prog 39 #[.int .i64 1, .slice A b.length cap] w (OutL (fun L => if (decC b).2 = 0 then SrtOf ((decC b).1.tree :: (decC b).1.parents) L else L = []) (decC b).2 w) := by
  have kc := check_commit b hb A cap w hg hA
  have ke := fun w' (h : Below w.heap.size w w') => cedges_any b hb A cap w' (hg.below h) (hA.below h)
  obtain ⟨h20, hp⟩ := decC_20 b
  have hfew := decC_few b hb
  obtain ⟨n, hn⟩ : ∃ n, n = b.length := ⟨_, rfl⟩
  rw [← hn] at kc ke ⊢
  obtain ⟨c, hc⟩ : ∃ c, c = (decC b).1 := ⟨_, rfl⟩
  obtain ⟨er, her⟩ : ∃ er, er = (decC b).2 := ⟨_, rfl⟩
  rw [← hc] at h20 hp hfew
  rw [← her] at kc
  rw [← hc, ← her] at ke ⊢
  clear hn hc her hb hA hg
  by_cases h0 : er = 0
  · have hL : (fun L => if er = 0 then SrtOf (c.tree :: c.parents) L else L = []) = SrtOf (c.tree :: c.parents) := by
      funext L
      rw [if_pos h0]
    rw [hL]
    clear hL
    subst h0
    have ks : ∀ A1 (n1 c1 : Nat) w1 (L : List (List UInt8)), n1 = L.length → L = c.tree :: c.parents → (A1 = none → c1 = 0) → Sl w1 A1 (idc L) → Calls Tryz.prog 88 #[.slice A1 n1 c1] w1 fun e w' => ∃ A' m M, e = .returned (.slice A' m m) ∧ Hid (m = M.length) ∧ SrtOf (c.tree :: c.parents) M ∧ All20 M ∧ Sl w' A' (idc M) ∧ Below w1.heap.size w1 w' := fun A1 n1 c1 w1 L hn1 hL h0 hs => by
      subst hn1
      subst hL
      have h20' : All20 (c.tree :: c.parents) := fun x hx => by
        rcases List.mem_cons.1 hx with rfl | hx
        · exact h20
        · exact hp x hx
      refine (sort_all (c.tree :: c.parents) h20' (by simp; omega) A1 c1 w1 hs h0).mono ?_
      rintro e w' ⟨A', M, rfl, hS⟩
      exact ⟨A', M.length, M, rfl, Lib.hid rfl, ⟨hS.ris, hS.mem⟩, sorted_20 hS h20', hS.sl, hS.below⟩
    have KS := Lib.hid ks; have KE := Lib.hid ke
    clear ks ke h20 hp hfew
    go_enter Tryz.func39, Tryz.ntmps39
    go_wp2_with (first
      | (go_at_call 42; (with_reducible refine kc.mono ?_); rintro e w1 ⟨rfl, hb1⟩)
      | (go_at_call 86; (with_reducible refine (KE.out _ hb1).mono ?_); rintro e w2 ⟨⟨A2, n2, L2, c2, rfl, hn2, hL2, hc2, hz2, _, hs2⟩, hb2⟩
         have KS2 := Lib.hid (KS.out A2 n2 c2 w2 L2 hn2 hL2 hz2 hs2)
         clear hn2 hL2 hz2)
      | (go_at_call 88; (with_reducible refine KS2.out.mono ?_); rintro e w3 ⟨A3, m3, M, rfl, hm3, hS3, h203, hs3, hb3⟩))
    go_ret2
    have b2 := hb1.trans (hb2.mono hb1.size)
    refine ⟨⟨A3, m3, M, m3, rfl, hm3.out, hS3, Nat.le_refl _, fun e => ?_, h203, hs3⟩, b2.trans (hb3.mono b2.size)⟩
    subst e
    rw [hm3.out]; exact sl_null hs3 h203
  · have hL : (fun L => if er = 0 then SrtOf (c.tree :: c.parents) L else L = []) = fun L => L = [] := by
      funext L
      rw [if_neg h0]
    rw [hL]
    have hne : ((er : Int) != 0) = true := by simpa using h0
    clear hL h0 ke h20 hp hfew
    go_enter Tryz.func39, Tryz.ntmps39
    go_wp2_with (first
      | (go_at_call 42; (with_reducible refine kc.mono ?_); rintro e w1 ⟨rfl, hb1⟩))
    go_ret2
    exact ⟨⟨none, 0, [], 0, rfl, rfl, rfl, Nat.le_refl _, fun _ => rfl, fun x hx => by simp at hx, Sl.nil _ _⟩, hb1⟩
theorem edges_blob (n : Nat) (hn : n ≤ 1073741824) (A : Option Addr) (cap : Nat) (w : World) :
    Calls Tryz.prog 39 #[.int .i64 3, .slice A n cap] w (OutL (fun L => L = []) (if 16384 < n then 5 else 0) w) := by
  have kc := check_blob n hn A cap w
  have ks : ∀ w1, Calls Tryz.prog 88 #[.slice none 0 0] w1 fun e w' => ∃ A' m M, e = .returned (.slice A' m m) ∧ Hid (m = 0 ∧ M = []) ∧ Sl w' A' (idc M) ∧ Below w1.heap.size w1 w' := fun w1 => by
    refine (sort_all [] (fun x hx => by simp at hx) (by simp) none 0 w1 (Sl.nil _ _) (fun _ => rfl)).mono ?_
    rintro e w' ⟨A', M, rfl, hS⟩
    have hM : M = [] := List.eq_nil_iff_forall_not_mem.2 (fun x hx => by have := (hS.mem x).1 hx; simp at this)
    subst hM
    exact ⟨A', _, [], rfl, Lib.hid ⟨rfl, rfl⟩, hS.sl, hS.below⟩
  by_cases h : 16384 < n
  · rw [if_pos h] at kc ⊢
    clear h ks
    go_enter Tryz.func39, Tryz.ntmps39
    go_wp2_with (first
      | (go_at_call 42; (with_reducible refine kc.mono ?_); rintro e w1 ⟨rfl, rfl⟩))
    go_ret2
    exact ⟨⟨none, 0, [], 0, rfl, rfl, rfl, Nat.le_refl _, fun _ => rfl, fun x hx => by simp at hx, Sl.nil _ _⟩, Below.refl _ _⟩
  · rw [if_neg h] at kc ⊢
    have KS := Lib.hid ks
    clear h ks
    go_enter Tryz.func39, Tryz.ntmps39
    go_wp2_with (first
      | (go_at_call 42; (with_reducible refine kc.mono ?_); rintro e w1 ⟨rfl, rfl⟩)
      | (go_at_call 88; (with_reducible refine (KS.out _).mono ?_); rintro e w3 ⟨A3, m3, M, rfl, hm3, hs3, hb3⟩))
    go_ret2
    obtain ⟨rfl, rfl⟩ := hm3.out
    exact ⟨⟨A3, 0, [], 0, rfl, rfl, rfl, Nat.le_refl _, fun _ => rfl, fun x hx => by simp at hx, Sl.nil _ _⟩, hb3⟩
theorem parents_not (k : Int) (hk : k ≠ 1) (A : Option Addr) (n cap : Nat) (w : World) :
    Calls Tryz.prog 44 #[.int .i64 k, .slice A n cap] w fun e w' => e = .returned (.slice none 0 0) ∧ w = w' := by
  have h : (k != 1) = true := by simpa using hk
  clear hk
  go_enter Tryz.func44, Tryz.ntmps44
  go_wp2
  go_ret
  exact ⟨rfl, rfl⟩
end
section
open Go.RowKit
set_option maxRecDepth 100000
set_option maxHeartbeats 1000000
set_option linter.unusedVariables false
def strv (p : List UInt8) : Value := .string (bstr p)
def strs (l : List (List UInt8)) : List Value := l.map strv
theorem strs_len (l : List (List UInt8)) : (strs l).length = l.length := by simp [strs]
theorem strs_one (l : List (List UInt8)) : ∀ u ∈ strs l, u.oneCell' = true := fun u hu => by
  obtain ⟨c, _, rfl⟩ := List.mem_map.1 hu
  rfl
theorem infoStr : (Tryz.prog.info? 9).map (fun i => (i.zero, i.size, i.bytes)) = some (some (.string ⟨#[]⟩), 1, 16) := by kernel_rfl
theorem splitS_any (s : List UInt8) (hs : s.length ≤ 1073741824) (c : UInt8) (w : World) (hg : Gb w) : Calls Tryz.prog 72 #[.string (bstr s), .string ⟨#[c]⟩] w fun e w' =>
    e = .returned (.slice (some ⟨w.heap.size, 0, none⟩) (sp c s).length (sp c s).length) ∧ w'.heap[w.heap.size]? = some (.cells (strs (sp c s)).toArray 9 (0, 0)) ∧ Below w.heap.size w w' := by
  obtain ⟨m, hm⟩ := hg.max
  have hz := bstr_size s
  refine (Tryz.strings_Split (bstr s) ⟨#[c]⟩ m w (by omega) hm (Nat.le_refl 1)).mono ?_
  rintro e w' ⟨rfl, rfl⟩
  have hps : (Lib.splitB ⟨#[c]⟩ 0 (Lib.countB (bstr s) ⟨#[c]⟩) (bstr s)).map (·.data.toList) = sp c s := by
    rw [Lib.splitB_data]
    show Lib.splitK [c] 0 (Lib.count (bstr s).data.toList [c]) (bstr s).data.toList = _
    rw [Lib.count_one]
    have : (bstr s).data.toList = s := by simp
    rw [this]
    exact splitK_sp c _ _ (Nat.le_refl _)
  have hcount : Lib.countB (bstr s) ⟨#[c]⟩ + 1 = (sp c s).length := by
    rw [count_len]
    show Lib.count (bstr s).data.toList [c] + 1 = _
    rw [Lib.count_one]
  refine ⟨by rw [hcount], ?_, (Below.refl _ _).alloc (Nat.le_refl _) _⟩
  have he : strs (sp c s) = (Lib.splitB ⟨#[c]⟩ 0 (Lib.countB (bstr s) ⟨#[c]⟩) (bstr s)).map Value.string := by
    rw [← hps]
    simp only [strs, List.map_map]
    exact List.map_congr_left (fun x _ => rfl)
  rw [heap_alloc_new, he]
theorem wpList_appS {w : World} {ops : Array Oper} {rest : List Oper} {o : Oper} {a : Act} {Q : Exit → Act → World → Prop} (hgd : o.guard = none) (s x : Operand)
    (ho : o.op = .call { callee := .builtin .append, args := #[s, x], argTypes := #[124, 124] })
    (B : Nat) (v : Value) (l : List (List UInt8)) (hs : a.eval s = v) (hown : Win w B 9 1 v l.length (strs l)) (A : Option Addr) (c n : Nat) (m : List (List UInt8)) (hn : n = m.length) (hx : a.eval x = .slice A n c) (hA : Sl w A (strs m))
    (hb : l.length + m.length ≤ 4000000) (hB : B ≤ w.heap.size)
    (h : ∀ v' w', Win w' B 9 1 v' (l ++ m).length (strs (l ++ m)) → Kp (fun k => v.ownBlock = some k) w w' → (v'.ownBlock = v.ownBlock ∨ v'.ownBlock = some w.heap.size) → wpList Tryz.prog ops Q rest (a.put o.dst v') w') : wpList Tryz.prog ops Q (o :: rest) a w := by
  subst hn
  exact wpList_appW hgd s x 124 124 ho B 9 (.string ⟨#[]⟩) 1 16 Tryz.underlying124 infoStr rfl (by decide) v l.length (strs l) hs hown (.slice A m.length c) m.length (strs m) hx (srcOf Tryz.underlying124 (by decide) (by simp [strs]) hA (strs_one m)) (by omega) (by unfold maxLen; omega) hB
    (fun v' w' h1 h2 h3 => h v' w' (by rw [List.length_append]; simpa [strs] using h1) h2 h3)
theorem numI_snoc (l : List UInt8) (c : UInt8) : numI (l ++ [c]) = 10 * numI l + (c.toNat - 48) := by unfold numI; simp
theorem numI_lt : ∀ (n : Nat) (l : List UInt8), l.length = n → l.all digI = true → numI l < 10 ^ n
  | 0, l, hl, _ => by
    obtain rfl := List.eq_nil_of_length_eq_zero hl
    simp [numI]
  | n + 1, l, hl, h => by
    obtain ⟨l', c, rfl⟩ : ∃ l' c, l = l' ++ [c] := by
      rcases List.eq_nil_or_concat l with e | ⟨l', c, e⟩
      · rw [e] at hl; simp at hl
      · exact ⟨l', c, by simpa using e⟩
    simp only [List.all_append, Bool.and_eq_true, List.all_cons, List.all_nil, Bool.and_true] at h
    have ih := numI_lt n l' (by simpa using hl) h.1
    have hc := h.2
    unfold digI at hc
    simp only [Bool.and_eq_true, decide_eq_true_eq] at hc
    rw [numI_snoc, Nat.pow_succ]
    omega
theorem words_take (q : List (List UInt8)) (i : Nat) (hi : i < q.length) : (q.take (i + 1)).filter (fun p => !(p == [])) = (q.take i).filter (fun p => !(p == [])) ++ (if q.getD i [] = [] then [] else [q.getD i []]) := by
  rw [List.take_succ_eq_append_getElem hi, List.filter_append]
  have : q.getD i [] = q[i] := by rw [List.getD_eq_getElem?_getD, List.getElem?_eq_getElem hi]; rfl
  rw [this]
  congr 1
  by_cases h : q[i] = []
  · rw [if_pos h, h]; rfl
  · rw [if_neg h, List.filter_cons_of_pos (by simpa using h)]; rfl
theorem date_any (k : Ck) (h20 : k.tree.length = 20) (hc : k.committer.length ≤ 1000000) (w : World) (hg : Gb w) :
    Calls Tryz.prog 29 #[cv k] w fun e w' => e = .returned (.int .i64 (dateI k.committer : Nat)) ∧ Below w.heap.size w w' := by
  obtain ⟨W0, hW0⟩ : ∃ W0, W0 = w.alloc (.cells (ccell k).toArray 45) := ⟨_, rfl⟩
  have hb0 : Below w.heap.size w W0 := by rw [hW0]; exact (Below.refl _ _).alloc (Nat.le_refl _) _
  have S0 : Sl W0 (some ⟨w.heap.size, 0, none⟩) (ccell k) := by
    rw [hW0]
    exact Sl.of_block (heap_alloc_new _ _) (fun j v hj => by simpa using hj)
  obtain ⟨_, _, q3, _⟩ := ccell_at h20
  have c22 : W0.cell? ⟨w.heap.size, 22, none⟩ = some (.string (bstr k.committer)) := by have := ck_at S0 q3; rwa [add_plain, Nat.zero_add] at this
  obtain ⟨s, hs⟩ : ∃ s, s = k.committer := ⟨_, rfl⟩
  rw [← hs] at c22 hc ⊢
  have kp := splitS_any s (by omega) 32 W0 (hg.below hb0)
  obtain ⟨q, hq⟩ : ∃ q, q = sp 32 s := ⟨_, rfl⟩
  have hqn : q.length ≤ 1000001 := by
    rw [hq, count_len]
    have := List.count_le_length (a := (32 : UInt8)) (l := s)
    omega
  have hql : ∀ p ∈ q, p.length ≤ 1000000 := fun p hp => by
    have : ∀ (l : List UInt8) (p : List UInt8), p ∈ sp 32 l → p.length ≤ l.length := by
      intro l
      induction l with
      | nil => intro p hp; simp [sp] at hp; subst hp; simp
      | cons y l ih =>
        intro p hp
        unfold sp at hp
        by_cases hy : y = 32
        · rw [if_pos hy] at hp
          rcases List.mem_cons.1 hp with e | e
          · subst e; simp
          · have := ih p e; simp; omega
        · rw [if_neg hy] at hp
          have hne := sp_ne 32 l
          generalize sp 32 l = r at *
          match r with
          | [] => exact absurd rfl hne
          | h0 :: t =>
            rcases List.mem_cons.1 hp with e | e
            · subst e; have := ih h0 (by simp); simp; omega
            · have := ih p (by simp [e]); simp; omega
    have := this s p (by rw [← hq]; exact hp)
    omega
  have hd : dateI s = if (wordsI s).length < 2 then 0 else if 10 < ((wordsI s).getD ((wordsI s).length - 2) []).length then 0 else if ((wordsI s).getD ((wordsI s).length - 2) []).all digI = true then numI ((wordsI s).getD ((wordsI s).length - 2) []) else 0 := rfl
  have hws : wordsI s = q.filter (fun p => !(p == [])) := by rw [hq]; rfl
  rw [← hq] at kp
  obtain ⟨n, hn⟩ : ∃ n, n = q.length := ⟨_, rfl⟩
  rw [← hn] at kp hqn
  have HW0 := Lib.hid hW0; have HB0 := Lib.hid hb0; have HQ := Lib.hid hql; have HD := Lib.hid hd; have HWS := Lib.hid hws; have HN := Lib.hid hn
  clear hW0 hb0 S0 q3 hs hg h20 hq hql hd hws hn hc
  go_enter Tryz.func29, Tryz.ntmps29
  go_upto_region 1 with fail
  rw [← HW0.out]
  go_wp2_with (go_at_call 72; (with_reducible refine kp.mono ?_); rintro e w1 ⟨rfl, hr1, hb1⟩
               have R1 := Lib.hid hr1
               clear hr1)
  go_loopw [3, 13] (fun t3 t13 wr => ∃ i : Nat, t13 = .int .i64 (i : Int) ∧ i ≤ n ∧ Hid (Win wr w1.heap.size 9 1 t3 ((q.take i).filter (fun p => !(p == []))).length (strs ((q.take i).filter (fun p => !(p == []))))) ∧ Below w1.heap.size w1 wr) (fun _ t13 _ => (n - intOf t13).toNat)
  case atStart => exact ⟨0, rfl, by omega, Lib.hid (by rw [List.take_zero]; exact Win.nil _ _ _ _), Below.refl _ _⟩
  case round =>
    obtain ⟨i, rfl, hi, HW, hbw⟩ := hrel
    by_cases hin : i < n
    · have hil : i < q.length := by rw [← HN.out]; exact hin
      have hwt := words_take q i hil
      have hfl : ((q.take i).filter (fun p => !(p == []))).length ≤ 1000001 := by
        have := List.length_filter_le (fun p : List UInt8 => !(p == [])) (q.take i)
        have := List.length_take_le i q
        omega
      obtain ⟨F, hF⟩ : ∃ F, F = (q.take i).filter (fun p => !(p == [])) := ⟨_, rfl⟩
      rw [← hF] at HW hwt hfl
      obtain ⟨p, hp⟩ : ∃ p, p = q.getD i [] := ⟨_, rfl⟩
      have hpl : p.length ≤ 1000000 := HQ.out p (by
        rw [hp, List.getD_eq_getElem?_getD, List.getElem?_eq_getElem hil]
        exact List.getElem_mem hil)
      have hcell : wr.cell? ⟨W0.heap.size, i, none⟩ = some (.string (bstr p)) := by
        rw [cell_of_row _ _ _ _ _ _ ((hbw.block _ (Array.getElem?_eq_some_iff.1 R1.out).1).trans R1.out), hp]
        simp [strs, hil, strv]
      rw [← hp] at hwt
      have HWT := Lib.hid hwt
      clear hwt hF hp
      cases p with
      | nil =>
        have hwt := HWT.out
        rw [if_pos rfl, List.append_nil] at hwt
        have HWT2 := Lib.hid hwt
        clear hwt HWT
        go_wp2
        go_roundw
        case rel => exact ⟨i + 1, by simp, by omega, by rw [HWT2.out]; exact HW, hbw⟩
        case measure => simp only [intOf]; omega
      | cons x t =>
        have hwt := HWT.out
        rw [if_neg (by simp)] at hwt
        have HWT2 := Lib.hid hwt
        have hz : ((x :: t : List UInt8) == []) = false := by simp
        have b2 : Below wr.heap.size wr (wr.alloc (.cells #[.string (bstr (x :: t))] 9)) := (Below.refl _ _).alloc (Nat.le_refl _) _
        have own := Lib.hid (HW.out.below b2)
        have S2 : Hid (Sl (wr.alloc (.cells #[.string (bstr (x :: t))] 9)) (some ⟨wr.heap.size, 0, none⟩) (strs [x :: t])) := Lib.hid (Sl.of_block (heap_alloc_new _ _) (fun j v hj => by simpa [strs, strv] using hj))
        have hbw2 := Lib.hid (hbw.trans (b2.mono hbw.size))
        have h1 := hbw.size
        clear hwt HWT b2 HW hbw
        go_wp2_with (refine wpList_appS rfl (.tmp 19) (.tmp 21) rfl w1.heap.size _ F rfl own.out (some ⟨wr.heap.size, 0, none⟩) 1 1 [x :: t] rfl rfl S2.out (by simp; omega) (by simp; omega) ?_
                     intro v2 w2 hw2 hk2 ho2)
        go_roundw
        case rel =>
          have hb3 := hbw2.out.trans (hk2.toBelow hbw2.out.size (fun g hg e => (own.out.block g e).1 |> fun h => by omega))
          exact ⟨i + 1, by simp, by omega, Lib.hid (by rw [HWT2.out]; exact hw2), hb3⟩
        case measure => simp only [intOf]; omega
    · obtain rfl : i = n := by omega
      have hF : (q.take i).filter (fun p => !(p == [])) = wordsI s := by rw [HWS.out, HN.out, List.take_of_length_le (Nat.le_refl _)]
      rw [hF] at HW
      have hd := HD.out
      have hwl : (wordsI s).length ≤ 1000001 := by
        rw [HWS.out]
        have := List.length_filter_le (fun p : List UInt8 => !(p == [])) q
        have := HN.out
        omega
      have hwm : ∀ p ∈ wordsI s, p.length ≤ 1000000 := fun p hp => HQ.out p (by rw [HWS.out] at hp; exact (List.mem_filter.1 hp).1)
      obtain ⟨ws, hws⟩ : ∃ ws, ws = wordsI s := ⟨_, rfl⟩
      rw [← hws] at HW hd hwl hwm
      obtain ⟨A, c, rfl, hcc, hmm, hsA⟩ := HW.out.reads
      obtain ⟨m, hm⟩ : ∃ m, m = ws.length := ⟨_, rfl⟩
      rw [← hm] at hd hwl hcc ⊢
      have hbb := HB0.out.trans ((hb1.trans (hbw.mono hb1.size)).mono HB0.out.size)
      have HBB := Lib.hid hbb; have HSA := Lib.hid hsA; have HM := Lib.hid hm; have HWM := Lib.hid hwm
      clear hF HW HD hws hbb hsA hm hwm hbw hcc hmm hin hi HWS HN HQ HW0 HB0 R1 hb1 kp c22 hqn
      by_cases h2 : m < 2
      · rw [if_pos h2] at hd
        have HD := Lib.hid hd
        clear hd
        go_wp2
        go_ret
        exact ⟨by rw [HD.out]; rfl, HBB.out⟩
      · rw [if_neg h2] at hd
        obtain ⟨j, rfl⟩ : ∃ j, m = j + 2 := ⟨m - 2, by omega⟩
        rw [show j + 2 - 2 = j by omega] at hd
        have hjl : j < ws.length := by rw [← HM.out]; omega
        obtain ⟨x, hx⟩ : ∃ x, x = ws.getD j [] := ⟨_, rfl⟩
        have hxm : x.length ≤ 1000000 := HWM.out x (by
          rw [hx, List.getD_eq_getElem?_getD, List.getElem?_eq_getElem hjl]
          exact List.getElem_mem hjl)
        rw [← hx] at hd
        obtain ⟨ad, rfl, hcell0⟩ := HSA.out j (strv x) (by rw [hx]; simp [strs, hjl])
        have hcell : wr.cell? (ad.add j) = some (.string (bstr x)) := hcell0
        have hdj : decide ((j : Int) + 2 < 2) = false := decide_eq_false (by omega)
        clear hcell0
        have hxz := bstr_size x
        by_cases h10 : 10 < x.length
        · rw [if_pos h10] at hd
          have HD := Lib.hid hd
          clear hd hx hjl hxm
          go_wp2
          go_ret
          exact ⟨by rw [HD.out]; rfl, HBB.out⟩
        · rw [if_neg h10] at hd
          obtain ⟨W1, c1, hcv, hb3, hs3, hc3, _⟩ := bytes_new x wr
          obtain ⟨H, hH⟩ : ∃ H, H = wr.heap.size := ⟨_, rfl⟩
          rw [← hH] at hcv hs3
          have HD := Lib.hid hd; have HB3 := Lib.hid (HBB.out.trans (hb3.mono HBB.out.size)); have HS3 := Lib.hid hs3
          clear hH
          clear hd hx hjl hb3 hs3
          go_wp2
          obtain ⟨n, hn⟩ : ∃ n, n = x.length := ⟨_, rfl⟩
          have hn10 : n ≤ 10 := by omega
          have HN := Lib.hid hn
          rw [← hn]
          clear hn
          go_loopw [6, 45] (fun t6 t45 wr' => ∃ i : Nat, t45 = .int .i64 (i : Int) ∧ i ≤ n ∧ t6 = .int .i64 (numI (x.take i) : Nat) ∧ Hid ((x.take i).all digI = true) ∧ wr' = W1) (fun _ t45 _ => (n - intOf t45).toNat)
          case atStart => exact ⟨0, rfl, by omega, rfl, Lib.hid rfl, rfl⟩
          case round =>
            obtain ⟨i, rfl, hi, rfl, HA, rfl⟩ := hrel
            by_cases hin : i < n
            · have hil : i < x.length := by rw [← HN.out]; exact hin
              obtain ⟨ad', e', hc⟩ := HS3.out.at (j := i) hil
              injection e' with e'
              subst e'
              have hxt : x.take (i + 1) = x.take i ++ [x[i]] := List.take_succ_eq_append_getElem hil
              have hmem : x[i] ∈ x := List.getElem_mem hil
              have hall : x.all digI = true → digI x[i] = true := fun h => List.all_eq_true.1 h _ hmem
              obtain ⟨y, hy⟩ : ∃ y, y = x[i] := ⟨_, rfl⟩
              rw [← hy] at hc hxt hall
              rw [add_plain, Nat.zero_add] at hc
              have hlt := numI_lt i (x.take i) (by rw [List.length_take]; omega) HA.out
              have hpow : (10 : Nat) ^ i ≤ 10 ^ 9 := Nat.pow_le_pow_right (by decide) (by omega)
              have hnum : numI (x.take i) < 1000000000 := Nat.lt_of_lt_of_le hlt hpow
              have hy256 := y.toNat_lt
              have HXT := Lib.hid hxt
              obtain ⟨N, hN⟩ : ∃ N, N = numI (x.take i) := ⟨_, rfl⟩
              rw [← hN] at hnum ⊢
              have HNN := Lib.hid hN
              clear hxt hmem hy hlt hpow hN
              by_cases h48 : y.toNat < 48
              · have hd : dateI s = 0 := by
                  rw [HD.out, if_neg (fun h => by have := hall h; unfold digI at this; simp at this; omega)]
                have HD2 := Lib.hid hd
                clear hall hd
                go_wp2
                go_ret
                exact ⟨by rw [HD2.out]; rfl, HB3.out⟩
              · by_cases h57 : 57 < y.toNat
                · have hd : dateI s = 0 := by
                    rw [HD.out, if_neg (fun h => by have := hall h; unfold digI at this; simp at this; omega)]
                  have HD2 := Lib.hid hd
                  clear hall hd
                  go_wp2
                  go_ret
                  exact ⟨by rw [HD2.out]; rfl, HB3.out⟩
                · have hdy : digI y = true := by unfold digI; simp; omega
                  have HDY := Lib.hid hdy
                  clear hall hdy
                  go_wp2
                  go_roundw
                  case rel =>
                    refine ⟨i + 1, by simp, by omega, ?_, Lib.hid (by rw [HXT.out]; simp [HA.out, HDY.out]), trivial⟩
                    rw [HXT.out, numI_snoc, ← HNN.out]
                    exact int_eq (by omega)
                  case measure => simp only [intOf]; omega
            · obtain rfl : i = n := by omega
              have hx : x.take i = x := by rw [HN.out, List.take_of_length_le (Nat.le_refl _)]
              rw [hx] at HA ⊢
              have hd : dateI s = numI x := by rw [HD.out, if_pos HA.out]
              have HD2 := Lib.hid hd
              clear hd hx HA
              go_wp2
              go_ret
              exact ⟨by rw [HD2.out]; rfl, HB3.out⟩
end
section
open Go.RowKit
set_option maxRecDepth 100000
set_option maxHeartbeats 2000000
set_option linter.unusedVariables false
def kc0 : Cm := ⟨zs20, [], [97], [98, 32, 49, 50, 32, 43, 48, 48, 48, 48], [109]⟩
def kx0 : List UInt8 := [98, 108, 111, 98, 32, 49, 0, 122]
theorem kb_enc : encC kc0 = (cmB kc0, 0) := by decide +kernel
theorem kb_dec : decC (cmB kc0) = (kc0, 0) := (decC_encC kc0 rfl (fun x hx => by simp [kc0] at hx) (by rw [kb_enc])).2
theorem kb_len : (cmB kc0).length ≤ 12000 := by decide +kernel
theorem kb_date : dateI kc0.committer = 12 := by decide +kernel
theorem kb_open : openI kx0 = (3, [122], 0) := by decide +kernel
theorem kb_sha : ∃ r, sha1 (canonI 3 []) = 230 :: r := by
  have h : (sha1 (canonI 3 [])).head? = some 230 := by decide +kernel
  cases hq : sha1 (canonI 3 []) with
  | nil => rw [hq] at h; cases h
  | cons x r =>
    rw [hq] at h
    obtain rfl : x = 230 := by simpa using h
    exact ⟨r, rfl⟩
theorem kb_built : Tryz.prog.built 45 [(2, .string ⟨#[97]⟩), (3, .string ⟨#[98, 32, 49, 50, 32, 43, 48, 48, 48, 48]⟩), (4, .string ⟨#[109]⟩)] = some (ccell (ck kc0 (.slice none 0 0))).toArray := by kernel_rfl
theorem wpList_buildK {ops : Array Oper} {rest : List Oper} {o : Oper} {a : Act} {w : World} {Q : Exit → Act → World → Prop} (hg : o.guard = none)
    (ho : o.op = .build 45 #[(2, .const (.string ⟨#[97]⟩)), (3, .const (.string ⟨#[98, 32, 49, 50, 32, 43, 48, 48, 48, 48]⟩)), (4, .const (.string ⟨#[109]⟩))])
    (h : wpList Tryz.prog ops Q rest (a.put o.dst (cv (ck kc0 (.slice none 0 0)))) w) : wpList Tryz.prog ops Q (o :: rest) a w := by
  refine wpList_plain hg fun K hK => ?_
  have hr := run_build (P := Tryz.prog) w 45 #[(2, .string ⟨#[97]⟩), (3, .string ⟨#[98, 32, 49, 50, 32, 43, 48, 48, 48, 48]⟩), (4, .string ⟨#[109]⟩)] _ kb_built
  have he : ∀ v, a.eval (.const v) = v := fun v => rfl
  unfold Oper.wp
  simp [execOp, ho, he, hr, Result.andThen]
  exact hK _ _ h
def kx0v : Array Value := #[.int .u8 98, .int .u8 108, .int .u8 111, .int .u8 98, .int .u8 32, .int .u8 49, .int .u8 0, .int .u8 122]
theorem known_any (w : World) (hg : Gb w) : Calls Tryz.prog 10 #[] w fun e w' => e = .returned (.bool true) ∧ Below w.heap.size w w' := by
  obtain ⟨k, hk⟩ : ∃ k, k = ck kc0 (.slice none 0 0) := ⟨_, rfl⟩
  have hk20 : k.tree.length = 20 := by rw [hk]; rfl
  obtain ⟨r1, b1⟩ := new_set w 45 zck (ccell k).toArray
  obtain ⟨W1, hW1⟩ : ∃ W1, W1 = (w.alloc (.cells zck 45)).setRow w.heap.size (ccell k).toArray := ⟨_, rfl⟩
  rw [← hW1] at r1 b1
  have S1 : Sl W1 (some ⟨w.heap.size, 0, none⟩) (ccell k) := Sl.of_block r1 (fun j v hj => by simpa using hj)
  have l1 := load_ck hk20 S1
  have k1 := encC_any kc0 rfl (fun x hx => by simp [kc0] at hx) (by decide) (by decide) (by decide) (by decide) none 0 (fun _ => rfl) W1 (Sl.nil _ _)
  rw [kb_enc] at k1
  rw [show ck kc0 (.slice none kc0.parents.length 0) = k by rw [hk]; rfl] at k1
  dsimp only at k1
  have zk := Lib.hid (infoC hk20); have zl := Lib.hid (zck_size hk20); have zo := Lib.hid (ccell_one (k := k) (by rw [hk]; rfl))
  have c1 : ∀ w', Below W1.heap.size W1 w' → w'.cell? ⟨w.heap.size, 22, none⟩ = some (.string (bstr kc0.committer)) := fun w' h => by
    have := ck_at (S1.below h) (ccell_at hk20).2.2.1
    rw [hk] at this
    rwa [add_plain, Nat.zero_add] at this
  have HG := Lib.hid hg; have B1 := Lib.hid b1; have HW1 := Lib.hid hW1; have C1 := Lib.hid c1
  rw [hk] at l1 zk zl zo HW1 k1
  clear hg b1 r1 S1 hW1 c1 hk hk20
  go_enter Tryz.func10, Tryz.ntmps10
  go_upto_region 2 with (first
    | (refine wpList_buildK rfl rfl ?_)
    | (simp only [zcklit]; refine wpList_store_row rfl 45 (.tmp 1) (.tmp 12) rfl w.heap.size _ rfl rfl 45 zck (heap_alloc_new _ _) zk.out zl.out zo.out ?_))
  simp only [Act.put]
  rw [← HW1.out]
  go_upto_region 3 with (first
    | (refine wpList_loadG 45 (.tmp 1) rfl ⟨w.heap.size, 0, none⟩ rfl _ l1 rfl ?_)
    | (go_at_call 23; (with_reducible refine k1.mono ?_); rintro e w2 ⟨⟨A2, c2, rfl, hc2, hs2⟩, hb2⟩))
  have bw2 := B1.out.trans (hb2.mono B1.out.size)
  have kd := decC_any (cmB kc0) kb_len A2 c2 w2 (HG.out.below bw2) hs2
  rw [kb_dec] at kd
  obtain ⟨n0, hn0⟩ : ∃ n0, n0 = (cmB kc0).length := ⟨_, rfl⟩
  rw [← hn0] at kd hc2 ⊢
  have HN0 := Lib.hid hn0; have HS2 := Lib.hid hs2; have HB2 := Lib.hid hb2; have BW2 := Lib.hid bw2
  dsimp only at kd
  clear hn0 hs2 hb2 bw2
  go_upto_region 4 with (first
    | (go_at_call 31; (with_reducible refine kd.mono ?_); rintro e w3 ⟨⟨A3, c3, rfl, _, _, _⟩, hb3⟩
       have zk3 := Lib.hid (infoC (k := ck kc0 (.slice A3 kc0.parents.length c3)) rfl); have zl3 := Lib.hid (zck_size (k := ck kc0 (.slice A3 kc0.parents.length c3)) rfl); have zo3 := Lib.hid (ccell_one (k := ck kc0 (.slice A3 kc0.parents.length c3)) rfl))
    | (simp only [zcklit]; refine wpList_store_row rfl 45 (.tmp 4) (.tmp 21) rfl w3.heap.size _ rfl rfl 45 zck (heap_alloc_new _ _) zk3.out zl3.out zo3.out ?_))
  obtain ⟨k3, hk3⟩ : ∃ k3, k3 = ck kc0 (.slice A3 kc0.parents.length c3) := ⟨_, rfl⟩
  rw [← hk3] at zk3 zl3 zo3 ⊢
  have h320 : k3.tree.length = 20 := by rw [hk3]; rfl
  have h3c : k3.committer = kc0.committer := by rw [hk3]
  obtain ⟨r4, b4⟩ := new_set w3 45 zck (ccell k3).toArray
  obtain ⟨W4, hW4⟩ : ∃ W4, W4 = (w3.alloc (.cells zck 45)).setRow w3.heap.size (ccell k3).toArray := ⟨_, rfl⟩
  rw [← hW4] at r4 b4
  try simp only [Act.put]
  rw [← hW4]
  have S4 : Sl W4 (some ⟨w3.heap.size, 0, none⟩) (ccell k3) := Sl.of_block r4 (fun j v hj => by simpa using hj)
  have bw4 := hb3.trans (b4.mono hb3.size)
  have c4 : ∀ w', Below W4.heap.size W4 w' → w'.cell? ⟨w3.heap.size, 22, none⟩ = some (.string (bstr kc0.committer)) := fun w' h => by
    have := ck_at (S4.below h) (ccell_at h320).2.2.1
    rw [h3c] at this
    rwa [add_plain, Nat.zero_add] at this
  have l4 : ∀ w', Below W4.heap.size W4 w' → (loadVar 45 ⟨w3.heap.size, 0, none⟩).run Tryz.prog w' = .ok (cv k3) w' := fun w' h => load_ck h320 (S4.below h)
  have kdt : ∀ w', Gb w' → Calls Tryz.prog 29 #[cv k3] w' fun e w'' => e = .returned (.int .i64 12) ∧ Below w'.heap.size w' w'' := fun w' h => by
    have := date_any k3 h320 (by rw [h3c]; decide) w' h
    rw [h3c, kb_date] at this
    exact this
  have BW4 := Lib.hid bw4; have C4 := Lib.hid c4; have L4 := Lib.hid l4; have KDT := Lib.hid kdt
  have b24 := BW2.out.trans (bw4.mono BW2.out.size)
  have B24 := Lib.hid b24
  have ki : Calls Tryz.prog 14 #[.int .i64 3, .slice none 0 0] W4 fun e w' => e = .returned (idv (sha1 (canonI 3 []))) ∧ Below W4.heap.size W4 w' := id_any 3 [] (by decide) none 0 (Nat.le_refl _) W4 (HG.out.below b24) (Sl.nil _ _)
  obtain ⟨rr, hrr⟩ := kb_sha
  obtain ⟨y, hy⟩ : ∃ y, y = sha1 (canonI 3 []) := ⟨_, rfl⟩
  have hy20 : y.length = 20 := by rw [hy]; exact sha1_len _
  rw [← hy] at ki hrr
  have HRR := Lib.hid hrr
  have zi := Lib.hid (info23 y hy20)
  have hz20 : (bvs zs20).toArray.size = (bvs y).toArray.size := by rw [show (bvs y).toArray.size = 20 by simp [hy20]]; rfl
  have HZ := Lib.hid hz20
  clear r4 b4 hW4 S4 bw4 c4 l4 kdt b24 hrr hy hy20 hz20 h320 h3c hk3
  go_upto_region 5 with (first
    | (go_at_call 14; (with_reducible refine ki.mono ?_); rintro e w5 ⟨rfl, hb5⟩)
    | (simp only [zlit]; refine wpList_store_row rfl 27 (.tmp 6) (.tmp 23) rfl w5.heap.size (bvs y).toArray rfl rfl 27 (bvs zs20).toArray (heap_alloc_new _ _) zi.out HZ.out (one_bvs _) ?_))
  obtain ⟨r6, b6⟩ := new_set w5 27 (bvs zs20).toArray (bvs y).toArray
  obtain ⟨W6, hW6⟩ : ∃ W6, W6 = (w5.alloc (.cells (bvs zs20).toArray 27)).setRow w5.heap.size (bvs y).toArray := ⟨_, rfl⟩
  rw [← hW6] at r6 b6
  try simp only [Act.put]
  rw [← hW6]
  have c6 : ∀ w', Below W6.heap.size W6 w' → w'.cell? ⟨w5.heap.size, 0, none⟩ = some (.int .u8 230) := fun w' h => by
    rw [cell_of_row _ _ _ _ _ _ ((h.block _ (Array.getElem?_eq_some_iff.1 r6).1).trans r6), HRR.out]
    rfl
  have b46 : Below W4.heap.size W4 W6 := hb5.trans (b6.mono hb5.size)
  have C6 := Lib.hid c6; have B46 := Lib.hid b46
  have b26 := B24.out.trans (b46.mono B24.out.size)
  have B26 := Lib.hid b26
  obtain ⟨W7, hW7⟩ : ∃ W7, W7 = W6.alloc (.cells kx0v 5 (8, 9)) := ⟨_, rfl⟩
  have b67 : Below W6.heap.size W6 W7 := by rw [hW7]; exact (Below.refl _ _).alloc (Nat.le_refl _) _
  have S7 : Bs W7 (some ⟨W6.heap.size, 0, none⟩) kx0 := by rw [hW7]; exact Sl.of_block (heap_alloc_new _ _) (fun j v hj => by rw [Nat.zero_add]; rw [show kx0v = (bvs kx0).toArray from rfl]; simpa using hj)
  have ko : Calls Tryz.prog 18 #[.slice (some ⟨W6.heap.size, 0, none⟩) 8 8] W7 (OutO (openI kx0).1 (openI kx0).2.1 (openI kx0).2.2 W7) := open_any kx0 (by decide) (some ⟨W6.heap.size, 0, none⟩) 8 (by decide) (fun e => by cases e) W7 (HG.out.below (b26.trans (b67.mono b26.size))) S7
  rw [kb_open] at ko
  have kcv : (convert 22 22 (.slice (some ⟨W6.heap.size, 0, none⟩) 8 8)).run Tryz.prog (W6.alloc (.cells #[.int .u8 98, .int .u8 108, .int .u8 111, .int .u8 98, .int .u8 32, .int .u8 49, .int .u8 0, .int .u8 122] 5)) = .ok (.slice (some ⟨W6.heap.size, 0, none⟩) 8 8) W7 := by
    rw [hW7]
    exact Lib.run_convert_bytes_const W6 22 5 kx0v 8 8 Tryz.underlying22 Tryz.underlying5
  have B67 := Lib.hid b67
  clear r6 b6 hW6 c6 b46 b26 hW7 b67 S7
  go_upto_region 6 with (first
    | (go_at_call 18; (with_reducible refine ko.mono ?_); rintro e w8 ⟨⟨A8, c8, rfl, _, _, hs8⟩, hb8⟩))
  have b48 : Below W4.heap.size W4 w8 := B46.out.trans ((B67.out.trans (hb8.mono B67.out.size)).mono B46.out.size)
  have b28 := B24.out.trans (b48.mono B24.out.size)
  have b68 : Below W6.heap.size W6 w8 := B67.out.trans (hb8.mono B67.out.size)
  have b22 : Below w2.heap.size w2 w8 := BW4.out.trans (b48.mono BW4.out.size)
  have ke := edges_commit (cmB kc0) kb_len A2 c2 w8 (HG.out.below b28) (HS2.out.below b22)
  rw [kb_dec, ← HN0.out] at ke
  have hone : ∀ L, (if (kc0, 0).2 = 0 then SrtOf ((kc0, 0).1.tree :: (kc0, 0).1.parents) L else L = []) → L.length = 1 := fun L h => by
    rw [if_pos rfl] at h
    obtain ⟨h1, h2⟩ := h
    have hn := ris_nodup h1
    have e1 := nodup_le L [zs20] hn (fun x hx => (h2 x).1 hx)
    have e2 := nodup_le [zs20] L (by simp) (fun x hx => (h2 x).2 hx)
    simp at e1 e2
    omega
  have HONE := Lib.hid hone
  have B48 := Lib.hid b48; have B68 := Lib.hid b68; have B28 := Lib.hid b28
  have HS8 := Lib.hid hs8
  clear b48 b68 b28 b22 hs8 hone ko kcv
  go_upto_region 7 with (first
    | (go_at_call 39; (with_reducible refine ke.mono ?_); rintro e w9 ⟨⟨A9, n9, L9, c9, rfl, hn9, hL9, _, _, _, _⟩, hb9⟩
       have hn1 : n9 = 1 := hn9.trans (HONE.out _ hL9)
       clear hn9 hL9
       subst hn1))
  have b49 := B48.out.trans (hb9.mono B48.out.size)
  have b69 := B68.out.trans (hb9.mono B68.out.size)
  have b29 := B28.out.trans (hb9.mono B28.out.size)
  have d4 := C4.out w9 b49
  have d1 := C1.out w9 (by
    have := (HB2.out.trans (BW4.out.mono HB2.out.size)).trans (b49.mono (HB2.out.trans (BW4.out.mono HB2.out.size)).size)
    exact this)
  have d6 := C6.out w9 b69
  have dl := L4.out w9 b49
  have hcv9 : (convert 22 9 (.slice A8 1 c8)).run Tryz.prog w9 = .ok (.string ⟨#[122]⟩) w9 := conv34 (l := [122]) (HS8.out.below hb9) rfl
  have kd9 := KDT.out w9 (HG.out.below b29)
  have B29 := Lib.hid b29
  clear b49 b69 b29
  go_wp2_with (first
    | (refine wpList_loadG 45 (.tmp 4) rfl ⟨w3.heap.size, 0, none⟩ rfl _ dl rfl ?_)
    | (go_at_call 29; (with_reducible refine kd9.mono ?_); rintro e w10 ⟨rfl, hb10⟩))
  go_ret
  exact ⟨rfl, B29.out.trans (hb10.mono B29.out.size)⟩
end
end Go.Proofs.YtcedfapcpmedfaaGreatDoor
