/- ObjectEdges: a tree leads to its entries but links, each once; a commit to its tree and parents. Conditions: what the library's tables hold; twenty bytes each. -/
import Derived.Test.YtcedfapcpmedfaaGreatDoorKl
import Derived.Test.YtcedfapcpmedfaaGreatDoorKk
import Derived.Test.YtcedfapcpmedfaaGreatDoorKh
namespace Go.Proofs.YtcedfapcpmedfaaGreatDoor
section
open Go.RowKit
set_option maxRecDepth 100000
set_option maxHeartbeats 4000000
set_option linter.unusedVariables false
/-- a row of names that stands apart from what a value owns -/
def Apt (w : World) (v : Value) (A : Option Addr) (c : Nat) (L : List (List UInt8)) : Prop := L.length ≤ c ∧ Sl w A (idc L) ∧ ∀ ad, A = some ad → ad.block < w.heap.size ∧ v.ownBlock ≠ some ad.block
theorem Apt.below {w w' : World} {v : Value} {A : Option Addr} {c : Nat} {L : List (List UInt8)} (h : Apt w v A c L) (hb : Below w.heap.size w w') : Apt w' v A c L :=
  ⟨h.1, h.2.1.below hb, fun ad e => ⟨by have := (h.2.2 ad e).1; have := hb.size; omega, (h.2.2 ad e).2⟩⟩
theorem Apt.kp {w w' : World} {v v' : Value} {A : Option Addr} {c : Nat} {L : List (List UInt8)} (h : Apt w v A c L) (k : Kp (fun q => v.ownBlock = some q) w w') (ho : v'.ownBlock = v.ownBlock ∨ v'.ownBlock = some w.heap.size) : Apt w' v' A c L := by
  refine ⟨h.1, Sl.kp h.2.1 k (fun ad e => (h.2.2 ad e).2), fun ad e => ⟨by have := (h.2.2 ad e).1; have := k.size; omega, fun hh => ?_⟩⟩
  rcases ho with ho | ho
  · exact (h.2.2 ad e).2 (by rw [← ho]; exact hh)
  · rw [ho] at hh
    injection hh with hh
    have := (h.2.2 ad e).1
    omega
theorem Apt.put {w w' : World} {v : Value} {A A' : Option Addr} {c c' : Nat} {L L' : List (List UInt8)} (h : Apt w v A c L) (hv : ∀ g, v.ownBlock = some g → g < w.heap.size) (hb : Below w.heap.size w w') (hl : L'.length ≤ c') (hs : Sl w' A' (idc L'))
    (ho : A' = A ∨ ∀ ad, A' = some ad → w.heap.size ≤ ad.block ∧ ad.block < w'.heap.size) : Apt w' v A' c' L' := by
  refine ⟨hl, hs, fun ad e => ?_⟩
  rcases ho with ho | ho
  · rw [ho] at e
    have := h.2.2 ad e
    exact ⟨by have := hb.size; omega, this.2⟩
  · have := ho ad e
    exact ⟨this.2, fun hh => by have := hv _ hh; omega⟩
theorem bl_at {w : World} {A : Option Addr} {k : List Bool} (h : Sl w A (k.map Value.bool)) {i : Nat} (hi : i < k.length) : ∃ ad, A = some ad ∧ w.cell? (ad.add i) = some (.bool (k.getD i false)) := by
  have e : (k.map Value.bool)[i]? = some (.bool (k.getD i false)) := by
    rw [List.getElem?_map, List.getD_eq_getElem?_getD, List.getElem?_eq_getElem hi]; rfl
  exact h i _ e
theorem id_at {w : World} {A : Option Addr} {l : List (List UInt8)} (h : Sl w A (idc l)) (h20 : All20 l) {i : Nat} (hi : i < l.length) : ∃ ad, A = some ad ∧ Sl w (some (ad.add (i * 20))) (bvs (l.getD i [])) := by
  cases A with
  | some ad => exact ⟨ad, rfl, sl_row h h20 i hi⟩
  | none =>
    have := sl_none h h20
    rw [this] at hi
    simp at hi
theorem run_bldO {o : Oper} {a : Act} {w : World} (x y z : Operand) (ho : o.op = .build 40 #[(0, x), (1, y), (2, z)])
    (e : En) (h20 : e.id.length = 20) (hx : a.eval x = .int .i64 e.mode) (hy : a.eval y = .string (bstr e.name)) (hz : a.eval z = idv e.id) : (execOp (Act.eval a) o).run Tryz.prog w = .ok (.value (ev e)) w := by
  have hr := run_build (P := Tryz.prog) w 40 #[(0, .int .i64 e.mode), (1, .string (bstr e.name)), (2, idv e.id)] _ (builtO e h20)
  simp [execOp, ho, hx, hy, hz, hr, Result.andThen]
theorem run_oneU {o : Oper} {a : Act} {w : World} (x : Operand) (ho : o.op = .buildSlice 22 1 #[(0, x)]) (c : UInt8) (hx : a.eval x = bv c) :
    (execOp (Act.eval a) o).run Tryz.prog w = .ok (.value (.slice (some ⟨w.heap.size, 0, none⟩) 1 1)) (w.alloc (.cells (bvs [c]).toArray 5)) := by
  obtain ⟨i, hi, hz, hsize, hby⟩ := info_parts Tryz.info5
  have hr := run_buildSlice (P := Tryz.prog) w 22 5 1 #[(0, bv c)] (bvs [c]).toArray i _ Tryz.underlying22 hi hz (by rw [hsize]; decide) (by rw [hsize]; decide) (by rw [hsize]; kernel_rfl)
  simp [execOp, ho, hx, hr, Result.andThen]
theorem conv_u8 (z : Int) (w : World) : (convert 3 5 (.int .i64 z)).run Tryz.prog w = .ok (.int .u8 (IntKind.u8.wrap z)) w := by kernel_rfl
theorem nm_str (c : UInt8) : ((⟨#[110]⟩ : ByteArray) ++ bstr [c]) = bstr [110, c] := by
  apply ByteArray.ext
  simp
theorem wpList_bld26 {ops : Array Oper} {rest : List Oper} {o : Oper} {a : Act} {w : World} {Q : Exit → Act → World → Prop} (hg : o.guard = none) (ho : o.op = .build 26 #[])
    (h : wpList Tryz.prog ops Q rest (a.put o.dst (idv zs20)) w) : wpList Tryz.prog ops Q (o :: rest) a w := by
  refine wpList_plain hg fun K hK => ?_
  have hr := run_build (P := Tryz.prog) w 26 #[] (bvs zs20).toArray (by kernel_rfl)
  unfold Oper.wp
  simp [execOp, ho, hr, Result.andThen]
  exact hK _ _ h
theorem wpList_one26 {ops : Array Oper} {rest : List Oper} {o : Oper} {a : Act} {w : World} {Q : Exit → Act → World → Prop} (hg : o.guard = none) (t : Nat) (ho : o.op = .buildSlice 52 1 #[(0, .tmp t)]) (x : List UInt8) (h20 : x.length = 20) (hx : a.eval (.tmp t) = idv x)
    (h : wpList Tryz.prog ops Q rest (a.put o.dst (.slice (some ⟨w.heap.size, 0, none⟩) 1 1)) (w.alloc (.cells (bvs x).toArray 26))) : wpList Tryz.prog ops Q (o :: rest) a w := by
  refine wpList_plain hg fun K hK => ?_
  have hr := run_one38 (w := w) (ev := Act.eval a) t ho x h20 hx
  unfold Oper.wp
  rw [hr]
  exact hK _ _ h
theorem wpList_bldE0 {ops : Array Oper} {rest : List Oper} {o : Oper} {a : Act} {w : World} {Q : Exit → Act → World → Prop} (hg : o.guard = none) (x : Operand) (ho : o.op = .build 45 #[(1, x), (2, .const (.string ⟨#[97]⟩)), (3, .const (.string ⟨#[98]⟩))]) (A : Option Addr) (n c : Nat) (hx : a.eval x = .slice A n c)
    (h : wpList Tryz.prog ops Q rest (a.put o.dst (cv ⟨zs20, .slice A n c, [97], [98], []⟩)) w) : wpList Tryz.prog ops Q (o :: rest) a w := by
  refine wpList_plain hg fun K hK => ?_
  have hr := run_build (P := Tryz.prog) w 45 #[(1, .slice A n c), (2, .string ⟨#[97]⟩), (3, .string ⟨#[98]⟩)] (ccell ⟨zs20, .slice A n c, [97], [98], []⟩).toArray (by kernel_rfl)
  have he : ∀ v, a.eval (.const v) = v := fun v => rfl
  unfold Oper.wp
  simp [execOp, ho, hx, he, hr, Result.andThen]
  exact hK _ _ h
theorem edges_pass (n m : Nat) (A B : Option Addr) (c d : Nat) (w : World) (hg : Gb w) (h : 20 < n ∨ m < n) :
    Calls Tryz.prog 9 #[.slice A n c, .slice B m d] w fun e w' => e = .returned (.bool true) ∧ Below w.heap.size w w' := by
  have kk := known_any w hg
  have cs : 20 < n ∨ (¬ 20 < n ∧ m < n) := by omega
  clear h hg
  rcases cs with h1 | ⟨h1, h2⟩
  all_goals
    go_enter Tryz.func9, Tryz.ntmps9
    go_wp2_with (go_at_call 10; (with_reducible refine kk.mono ?_); rintro e w1 ⟨rfl, hb1⟩)
    go_ret
    exact ⟨rfl, hb1⟩
/-- the first loop: entries so far, what is wanted so far -/
def EdR1 (l : List (List UInt8)) (k : List Bool) (n : Nat) (w : World) (t5 t6 t7 : Value) (wr : World) : Prop :=
  ∃ (i : Nat) (A6 : Option Addr) (m6 c6 : Nat), t7 = .int .i64 (i : Int) ∧ i ≤ n ∧ t6 = .slice A6 m6 c6 ∧ Hid (m6 = (wantI l k i).length) ∧ Hid (WinO wr w.heap.size t5 (rowsE l k i)) ∧ Hid (Apt wr t5 A6 c6 (wantI l k i)) ∧ Hid (Below w.heap.size w wr)
/-- the second loop: parents so far, all so far -/
def EdR2 (l : List (List UInt8)) (n : Nat) (w : World) (t13 t14 t15 : Value) (wr : World) : Prop :=
  ∃ (j : Nat) (A13 A14 : Option Addr) (m14 c14 m13 c13 : Nat), t15 = .int .i64 (j : Int) ∧ j ≤ n ∧ t14 = .slice A14 m14 c14 ∧ Hid (m14 = (allI l j).length) ∧ t13 = .slice A13 m13 c13 ∧ Hid (m13 = (parI l j).length) ∧ Hid (Win wr w.heap.size 27 20 t13 (parI l j).length (idc (parI l j))) ∧ Hid (Apt wr t13 A14 c14 (allI l j)) ∧ Hid (Below w.heap.size w wr)
theorem run_eqI {o : Oper} {a : Act} {w : World} (x y : Operand) (ty : TypeId) (ho : o.op = .binOp .eql 27 x y ty) (p q : List UInt8) (hp : p.length = 20) (hq : q.length = 20) (hx : a.eval x = idv p) (hy : a.eval y = idv q) :
    (execOp (Act.eval a) o).run Tryz.prog w = .ok (.value (.bool (decide (p = q)))) w := by
  have hg : (eqGuard .eql 27 x y (idv p) (idv q)).run Tryz.prog w = .ok () w := by kernel_rfl
  simp [execOp, ho, hx, hy, hg, eql_run 27 Tryz.underlying27 p q hp hq w, Result.andThen]
theorem edges_law (l : List (List UInt8)) (h20 : All20 l) (k : List Bool) (hn : l.length ≤ 20) (hk : l.length ≤ k.length) (A : Option Addr) (cap : Nat) (B : Option Addr) (d : Nat) (w : World) (hg : Gb w) (hz : Gz w) (hA : Sl w A (idc l)) (hB : Sl w B (k.map Value.bool)) :
    Calls Tryz.prog 9 #[.slice A l.length cap, .slice B k.length d] w fun e w' => e = .returned (.bool true) ∧ Below w.heap.size w w' := by
  have kk := known_any w hg
  obtain ⟨n, hnn⟩ : ∃ n, n = l.length := ⟨_, rfl⟩
  obtain ⟨m, hmm⟩ : ∃ m, m = k.length := ⟨_, rfl⟩
  rw [← hnn, ← hmm] at hk ⊢
  rw [← hnn] at hn
  have HA := Lib.hid hA; have HB := Lib.hid hB; have HNN := Lib.hid hnn; have HMM := Lib.hid hmm; have H20 := Lib.hid h20; have HG := Lib.hid hg; have HZ := Lib.hid hz
  clear hA hB hnn hmm h20 hg hz
  have d1 : decide ((20 : Int) < (n : Int)) = false := decide_eq_false (by omega)
  have d2 : decide (m < n) = false := decide_eq_false (by omega)
  go_enter Tryz.func9, Tryz.ntmps9
  go_upto_block 0 with (go_at_call 10; (with_reducible refine kk.mono ?_); rintro e w1 ⟨rfl, hb1⟩)
  have B1 := Lib.hid hb1
  clear hb1 kk
  go_step
  go_loopw [5, 6, 7, 8] (fun t5 t6 t7 t8 wr => EdR1 l k n w t5 t6 t7 wr) (fun _ _ t7 _ _ => (n - intOf t7).toNat)
  case atStart => exact ⟨0, none, 0, 0, rfl, by omega, rfl, Lib.hid rfl, Lib.hid (Win.nil _ _ _ _), Lib.hid ⟨Nat.le_refl _, Sl.nil _ _, fun ad e => by cases e⟩, B1⟩
  case round =>
    obtain ⟨i, A6, m6, c6, rfl, hi, rfl, HM6, HW, HP, HBW⟩ := hrel
    by_cases hin : i < n
    · have hil : i < l.length := by rw [← HNN.out]; exact hin
      have him : i < m := by omega
      obtain ⟨ad, hA1, hrow⟩ := id_at HA.out H20.out hil
      subst hA1
      obtain ⟨bd, hB1, hbl⟩ := bl_at HB.out (by rw [← HMM.out]; exact him : i < k.length)
      subst hB1
      obtain ⟨x, hx⟩ : ∃ x, x = l.getD i [] := ⟨_, rfl⟩
      have x20 : x.length = 20 := by rw [hx]; exact get20 H20.out i hil
      rw [← hx] at hrow
      obtain ⟨q, hq⟩ : ∃ q, q = k.getD i false := ⟨_, rfl⟩
      rw [← hq] at hbl
      have LB := load_oneC (T := 4) (fun w => by kernel_rfl) ((HBW.out.cell (World.block_lt_of_cell? w _ hbl)).trans hbl)
      have hrow0 := hrow 0 _ (by
        show (bvs x)[0]? = some (bv (x.getD 0 0))
        unfold bvs
        rw [List.getElem?_map, List.getD_eq_getElem?_getD, List.getElem?_eq_getElem (by omega)]; rfl)
      have hblk : ad.block < w.heap.size := by
        obtain ⟨ad', e1, h⟩ := hrow0
        injection e1 with e1
        have := World.block_lt_of_cell? w _ h
        rw [← e1, add_block, add_block] at this
        exact this
      have LX := Lib.hid (fun w' (h : Below w.heap.size w w') => load_id x x20 (ad.add (i * 20)) w' (hrow.below h))
      have BLK := Lib.hid hblk
      have EI : Hid (eI l k i = ⟨if q = true then 57344 else 33188, nmE i, x⟩) := Lib.hid (by unfold eI; rw [← hq, ← hx])
      have WS : Hid (wantI l k (i + 1) = if q = true then wantI l k i else putI (wantI l k i) x) := Lib.hid (by rw [wantI, ← hq, ← hx])
      have RS := Lib.hid (rowsE_succ l k i)
      have X20 := Lib.hid x20
      obtain ⟨_, w20, wl, _⟩ := want_ok H20.out k i (by omega)
      have W20 := Lib.hid w20; have WL := Lib.hid wl
      clear hrow hbl hrow0 hblk hx hq x20 w20 wl
      cases q with
      | true =>
        have WS2 : Hid (wantI l k (i + 1) = wantI l k i) := Lib.hid (by rw [WS.out]; rfl)
        have HM7 : Hid (m6 = (wantI l k (i + 1)).length) := Lib.hid (by rw [WS2.out]; exact HM6.out)
        have HPA : Hid (Apt wr u5 A6 c6 (wantI l k (i + 1))) := Lib.hid (by rw [WS2.out]; exact HP.out)
        go_upto_region 14 with (refine wpList_loadG 4 (.tmp 42) rfl (bd.add i) rfl _ LB rfl ?_)
        have EN : Hid (rowsE l k (i + 1) = rowsE l k i ++ [⟨57344, nmE i, x⟩]) := Lib.hid (by rw [RS.out, EI.out]; rfl)
        obtain ⟨cb, hcb⟩ : ∃ cb, cb = UInt8.ofNat (97 + i) := ⟨_, rfl⟩
        have hcn : (cb.toNat : Int) = 97 + (i : Int) := by rw [hcb]; simp; omega
        have HNM : Hid (nmE i = [110, cb]) := Lib.hid (by rw [hcb]; rfl)
        have zw : IntKind.i64.wrap (97 + (i : Int)) = (cb.toNat : Int) := by rw [IntKind.wrap_i64, hcn]; omega
        have zc : (Value.int .u8 (IntKind.u8.wrap (cb.toNat : Int))) = bv cb := by
          have : cb.toNat < 256 := cb.toNat_lt
          unfold bv
          congr 1
          unfold IntKind.wrap
          simp [IntKind.signed, IntKind.bits]
          omega
        have LI := Lib.hid (fun w' (h : Kp (fun q => u5.ownBlock = some q) wr w') => (show (loadVar 27 (ad.add (i * 20))).run Tryz.prog w' = .ok (idv x) w' from LX.out w' (HBW.out.trans (h.toBelow HBW.out.size (fun q hq e => by have := (HW.out.block _ e).1; omega)))))
        clear hcb hcn
        refine wp_region_plan [(0, false), (1, false), (2, false), (3, false), (4, false), (8, false), (9, false), (10, false), (11, false), (5, true), (6, false), (7, false), (12, false), (13, true), (14, true), (15, false)] (fun u v => Kp (fun q => u5.ownBlock = some q) u v) (fun w => Kp.refl _ _) (fun _ _ _ h k => h.trans k) (by kernel_rfl) (by kernel_rfl) ?_
        iterate 4 (refine wpG_still _ rfl rfl ?_; go_big_quiet_step ((intro hb; rfl)); refine wpQuiet_nil ?_)
        (refine wpG_still _ rfl rfl ?_; refine wpQuiet_pureC 54 rfl rfl (bv cb) (fun w _ => run_conv 3 5 (.tmp 53) rfl (.int .i64 (cb.toNat : Int)) _ rfl (by rw [conv_u8, zc])) ?_; simp only [List.set_cons_succ, List.set_cons_zero]; refine wpQuiet_nil ?_)
        iterate 4 (refine wpG_still _ rfl rfl ?_; first
          | (refine wpQuiet_load 27 (.tmp 60) rfl (ad.add (i * 20)) rfl (idv x) (fun w' h => LI.out w' (kp_ofDrew h)) _ rfl rfl ?_; simp only [List.set_cons_succ, List.set_cons_zero])
          | (go_big_quiet_step ((intro hb; rfl))); refine wpQuiet_nil ?_)
        have bdr : Below w.heap.size w wr.drew := HBW.out.drew
        refine wpG_value _ rfl rfl _ (run_oneU (w := wr.drew) (.tmp 54) rfl cb rfl) ((Kp.refl _ _).alloc _) ?_
        simp only [Act.put, List.setIfInBounds_toArray, List.set_cons_succ, List.set_cons_zero]
        obtain ⟨W5, hW5⟩ : ∃ W5, W5 = wr.drew.alloc (.cells (bvs [cb]).toArray 5) := ⟨_, rfl⟩
        have b5 : Below wr.drew.heap.size wr.drew W5 := by rw [hW5]; exact (Below.refl _ _).alloc (Nat.le_refl _) _
        have s5 : Bs W5 (some ⟨wr.drew.heap.size, 0, none⟩) [cb] := by
          rw [hW5]
          exact Sl.of_block (heap_alloc_new _ _) (fun j v hj => by simpa using hj)
        rw [← hW5]
        have hno : ¬ u5.ownBlock = some wr.drew.heap.size := fun e => by have := (HW.out.block _ e).2; have e2 : wr.drew.heap.size = wr.heap.size := rfl; omega
        have CV := Lib.hid (fun w' (h : Kp (fun q => u5.ownBlock = some q) W5 w') => conv34 (n := 1) (c := 1) (Sl.kp s5 h (fun ad e => by injection e with e; subst e; exact hno)) rfl)
        (refine wpG_still _ rfl rfl ?_; refine wpQuiet_pureC 56 rfl rfl (.string (bstr [cb])) (fun w' h => run_conv 22 9 (.tmp 55) rfl (.slice (some ⟨wr.drew.heap.size, 0, none⟩) 1 1) _ rfl (CV.out w' h)) ?_; simp only [List.set_cons_succ, List.set_cons_zero]; refine wpQuiet_nil ?_)
        iterate 1 (refine wpG_still _ rfl rfl ?_; go_big_quiet_step ((intro hb; first | rfl | (rw [if_neg (by simp)]; exact ⟨rfl, rfl⟩))); refine wpQuiet_nil ?_)
        (refine wpG_still _ rfl rfl ?_; refine wpQuiet_pureC 62 rfl rfl (ev ⟨57344, [110, cb], x⟩) (fun w _ => run_bldO (.tmp 51) (.tmp 57) (.tmp 61) rfl ⟨57344, [110, cb], x⟩ X20.out rfl (congrArg Value.string (nm_str cb)) rfl) ?_; simp only [List.set_cons_succ, List.set_cons_zero]; refine wpQuiet_nil ?_)
        refine wpG_value _ rfl rfl _ (run_oneO (w := W5) (.tmp 62) rfl ⟨57344, [110, cb], x⟩ X20.out rfl) ((Kp.refl _ _).alloc _) ?_
        simp only [Act.put, List.setIfInBounds_toArray, List.set_cons_succ, List.set_cons_zero]
        obtain ⟨W6, hW6⟩ : ∃ W6, W6 = W5.alloc (.cells (ecell ⟨57344, [110, cb], x⟩).toArray 40) := ⟨_, rfl⟩
        have b6 : Below W5.heap.size W5 W6 := by rw [hW6]; exact (Below.refl _ _).alloc (Nat.le_refl _) _
        have s6 : Sl W6 (some ⟨W5.heap.size, 0, none⟩) (ecs [⟨57344, [110, cb], x⟩]) := by
          rw [hW6, ecs_single]
          exact Sl.of_block (heap_alloc_new _ _) (fun j v hj => by simpa using hj)
        rw [← hW6]
        have b06 : Below wr.heap.size wr W6 := (Below.refl wr.heap.size wr).drew.trans ((b5.trans (b6.mono b5.size)))
        have hw6 : WinO W6 w.heap.size u5 (rowsE l k i) := HW.out.below b06
        have B6 : Below w.heap.size w W6 := HBW.out.trans (b06.mono HBW.out.size)
        obtain ⟨v7, w7, hrun, hw7, hk7, ho7⟩ := run_appO hw6 (some ⟨W5.heap.size, 0, none⟩) 1 1 [⟨57344, [110, cb], x⟩] rfl (fun x hx => by obtain rfl := List.mem_singleton.1 hx; exact X20.out) s6 (by rw [rowsE_len]; simp only [List.length_singleton]; omega) B6.size 69
        refine wpG_value _ rfl rfl v7 (run_appOp (.tmp 50) (.tmp 63) 69 69 rfl u5 _ _ rfl rfl hrun) hk7 ?_
        simp only [Act.put, List.setIfInBounds_toArray, List.set_cons_succ, List.set_cons_zero]
        iterate 1 (refine wpG_still _ rfl rfl ?_; go_big_quiet_step ((intro hb; rfl)); refine wpQuiet_nil ?_)
        refine wpG_nil ?_
        have HW7 : Hid (WinO w7 w.heap.size v7 (rowsE l k (i + 1))) := Lib.hid (by rw [EN.out, HNM.out]; exact hw7)
        have BW7 := Lib.hid (B6.trans (hk7.toBelow B6.size (fun q hq e => by have := (hw6.block _ e).1; omega)))
        have HP7 := Lib.hid ((HPA.out.below b06).kp hk7 ho7)
        clear hrun hw7 hk7 ho7 hW5 hW6 b5 b6 b06 s5 s6 hw6 B6 bdr hno
        go_wp2
        go_roundw
        case rel => exact ⟨i + 1, A6, m6, c6, by simp, by omega, rfl, HM7, HW7, HP7, BW7⟩
        case measure => simp only [intOf]; omega
      | false =>
        have WS2 : Hid (wantI l k (i + 1) = putI (wantI l k i) x) := Lib.hid (by rw [WS.out]; rfl)
        have LX0 := LX.out wr HBW.out
        have kp0 := putR_any (wantI l k i) W20.out (by have := WL.out; omega) A6 c6 HP.out.1 x X20.out wr HP.out.2.1
        rw [← HM6.out, ← WS2.out] at kp0
        have KP := Lib.hid kp0
        clear kp0
        go_upto_region 14 with (first
          | (refine wpList_loadG 4 (.tmp 42) rfl (bd.add i) rfl _ LB rfl ?_)
          | (refine wpList_loadG 27 (.tmp 47) rfl (ad.add (i * 20)) rfl _ LX0 rfl ?_)
          | (go_at_call 49; (with_reducible refine KP.out.mono ?_); rintro z wp ⟨A7, c7, rfl, hc7, hs7, hb7, ho7⟩))
        obtain ⟨m7, hm7⟩ : ∃ m7, m7 = (wantI l k (i + 1)).length := ⟨_, rfl⟩
        rw [← hm7]
        have HM7 := Lib.hid hm7
        have HPA := Lib.hid (HP.out.put (fun g e => (HW.out.block g e).2) hb7 hc7 hs7 ho7)
        have HWP := Lib.hid (HW.out.below hb7)
        have HBP := Lib.hid (HBW.out.trans (hb7.mono HBW.out.size))
        clear hc7 hs7 hb7 ho7 hm7 KP LX0
        have EN : Hid (rowsE l k (i + 1) = rowsE l k i ++ [⟨33188, nmE i, x⟩]) := Lib.hid (by rw [RS.out, EI.out]; rfl)
        obtain ⟨cb, hcb⟩ : ∃ cb, cb = UInt8.ofNat (97 + i) := ⟨_, rfl⟩
        have hcn : (cb.toNat : Int) = 97 + (i : Int) := by rw [hcb]; simp; omega
        have HNM : Hid (nmE i = [110, cb]) := Lib.hid (by rw [hcb]; rfl)
        have zw : IntKind.i64.wrap (97 + (i : Int)) = (cb.toNat : Int) := by rw [IntKind.wrap_i64, hcn]; omega
        have zc : (Value.int .u8 (IntKind.u8.wrap (cb.toNat : Int))) = bv cb := by
          have : cb.toNat < 256 := cb.toNat_lt
          unfold bv
          congr 1
          unfold IntKind.wrap
          simp [IntKind.signed, IntKind.bits]
          omega
        have LI := Lib.hid (fun w' (h : Kp (fun q => u5.ownBlock = some q) wp w') => (show (loadVar 27 (ad.add (i * 20))).run Tryz.prog w' = .ok (idv x) w' from LX.out w' (HBP.out.trans (h.toBelow HBP.out.size (fun q hq e => by have := (HWP.out.block _ e).1; omega)))))
        clear hcb hcn
        refine wp_region_plan [(0, false), (1, false), (2, false), (3, false), (4, false), (8, false), (9, false), (10, false), (11, false), (5, true), (6, false), (7, false), (12, false), (13, true), (14, true), (15, false)] (fun u v => Kp (fun q => u5.ownBlock = some q) u v) (fun w => Kp.refl _ _) (fun _ _ _ h k => h.trans k) (by kernel_rfl) (by kernel_rfl) ?_
        iterate 4 (refine wpG_still _ rfl rfl ?_; go_big_quiet_step ((intro hb; rfl)); refine wpQuiet_nil ?_)
        (refine wpG_still _ rfl rfl ?_; refine wpQuiet_pureC 54 rfl rfl (bv cb) (fun w _ => run_conv 3 5 (.tmp 53) rfl (.int .i64 (cb.toNat : Int)) _ rfl (by rw [conv_u8, zc])) ?_; simp only [List.set_cons_succ, List.set_cons_zero]; refine wpQuiet_nil ?_)
        iterate 4 (refine wpG_still _ rfl rfl ?_; first
          | (refine wpQuiet_load 27 (.tmp 60) rfl (ad.add (i * 20)) rfl (idv x) (fun w' h => LI.out w' (kp_ofDrew h)) _ rfl rfl ?_; simp only [List.set_cons_succ, List.set_cons_zero])
          | (go_big_quiet_step ((intro hb; rfl))); refine wpQuiet_nil ?_)
        have bdr : Below w.heap.size w wp.drew := HBP.out.drew
        refine wpG_value _ rfl rfl _ (run_oneU (w := wp.drew) (.tmp 54) rfl cb rfl) ((Kp.refl _ _).alloc _) ?_
        simp only [Act.put, List.setIfInBounds_toArray, List.set_cons_succ, List.set_cons_zero]
        obtain ⟨W5, hW5⟩ : ∃ W5, W5 = wp.drew.alloc (.cells (bvs [cb]).toArray 5) := ⟨_, rfl⟩
        have b5 : Below wp.drew.heap.size wp.drew W5 := by rw [hW5]; exact (Below.refl _ _).alloc (Nat.le_refl _) _
        have s5 : Bs W5 (some ⟨wp.drew.heap.size, 0, none⟩) [cb] := by
          rw [hW5]
          exact Sl.of_block (heap_alloc_new _ _) (fun j v hj => by simpa using hj)
        rw [← hW5]
        have hno : ¬ u5.ownBlock = some wp.drew.heap.size := fun e => by have := (HWP.out.block _ e).2; have e2 : wp.drew.heap.size = wp.heap.size := rfl; omega
        have CV := Lib.hid (fun w' (h : Kp (fun q => u5.ownBlock = some q) W5 w') => conv34 (n := 1) (c := 1) (Sl.kp s5 h (fun ad e => by injection e with e; subst e; exact hno)) rfl)
        (refine wpG_still _ rfl rfl ?_; refine wpQuiet_pureC 56 rfl rfl (.string (bstr [cb])) (fun w' h => run_conv 22 9 (.tmp 55) rfl (.slice (some ⟨wp.drew.heap.size, 0, none⟩) 1 1) _ rfl (CV.out w' h)) ?_; simp only [List.set_cons_succ, List.set_cons_zero]; refine wpQuiet_nil ?_)
        iterate 1 (refine wpG_still _ rfl rfl ?_; go_big_quiet_step ((intro hb; first | rfl | (rw [if_neg (by simp)]; exact ⟨rfl, rfl⟩))); refine wpQuiet_nil ?_)
        (refine wpG_still _ rfl rfl ?_; refine wpQuiet_pureC 62 rfl rfl (ev ⟨33188, [110, cb], x⟩) (fun w _ => run_bldO (.tmp 51) (.tmp 57) (.tmp 61) rfl ⟨33188, [110, cb], x⟩ X20.out rfl (congrArg Value.string (nm_str cb)) rfl) ?_; simp only [List.set_cons_succ, List.set_cons_zero]; refine wpQuiet_nil ?_)
        refine wpG_value _ rfl rfl _ (run_oneO (w := W5) (.tmp 62) rfl ⟨33188, [110, cb], x⟩ X20.out rfl) ((Kp.refl _ _).alloc _) ?_
        simp only [Act.put, List.setIfInBounds_toArray, List.set_cons_succ, List.set_cons_zero]
        obtain ⟨W6, hW6⟩ : ∃ W6, W6 = W5.alloc (.cells (ecell ⟨33188, [110, cb], x⟩).toArray 40) := ⟨_, rfl⟩
        have b6 : Below W5.heap.size W5 W6 := by rw [hW6]; exact (Below.refl _ _).alloc (Nat.le_refl _) _
        have s6 : Sl W6 (some ⟨W5.heap.size, 0, none⟩) (ecs [⟨33188, [110, cb], x⟩]) := by
          rw [hW6, ecs_single]
          exact Sl.of_block (heap_alloc_new _ _) (fun j v hj => by simpa using hj)
        rw [← hW6]
        have b06 : Below wp.heap.size wp W6 := (Below.refl wp.heap.size wp).drew.trans ((b5.trans (b6.mono b5.size)))
        have hw6 : WinO W6 w.heap.size u5 (rowsE l k i) := HWP.out.below b06
        have B6 : Below w.heap.size w W6 := HBP.out.trans (b06.mono HBP.out.size)
        obtain ⟨v7, w7, hrun, hw7, hk7, ho7⟩ := run_appO hw6 (some ⟨W5.heap.size, 0, none⟩) 1 1 [⟨33188, [110, cb], x⟩] rfl (fun x hx => by obtain rfl := List.mem_singleton.1 hx; exact X20.out) s6 (by rw [rowsE_len]; simp only [List.length_singleton]; omega) B6.size 69
        refine wpG_value _ rfl rfl v7 (run_appOp (.tmp 50) (.tmp 63) 69 69 rfl u5 _ _ rfl rfl hrun) hk7 ?_
        simp only [Act.put, List.setIfInBounds_toArray, List.set_cons_succ, List.set_cons_zero]
        iterate 1 (refine wpG_still _ rfl rfl ?_; go_big_quiet_step ((intro hb; rfl)); refine wpQuiet_nil ?_)
        refine wpG_nil ?_
        have HW7 : Hid (WinO w7 w.heap.size v7 (rowsE l k (i + 1))) := Lib.hid (by rw [EN.out, HNM.out]; exact hw7)
        have BW7 := Lib.hid (B6.trans (hk7.toBelow B6.size (fun q hq e => by have := (hw6.block _ e).1; omega)))
        have HP7 := Lib.hid ((HPA.out.below b06).kp hk7 ho7)
        clear hrun hw7 hk7 ho7 hW5 hW6 b5 b6 b06 s5 s6 hw6 B6 bdr hno
        go_wp2
        go_roundw
        case rel => exact ⟨i + 1, A7, m7, c7, by simp, by omega, rfl, HM7, HW7, HP7, BW7⟩
        case measure => simp only [intOf]; omega
    · have hle : i = n := by omega
      subst hle
      have hw : Win wr w.heap.size 40 22 u5 i (ecs (rowsE l k i)) := by
        have := HW.out
        unfold WinO at this
        rwa [rowsE_len] at this
      obtain ⟨A5, c5, rfl, hc5, hm5, hs5⟩ := hw.reads
      have hil : i ≤ l.length := by rw [← HNN.out]; exact Nat.le_refl _
      have kec := encTr_any (rowsE l k i) (rowsE_20 H20.out k hil) (fun e he => by obtain ⟨j, _, rfl⟩ := List.mem_map.1 he; show (nmE j).length ≤ 1048576; simp [nmE]) (by rw [rowsE_len]; omega) A5 c5 wr (HZ.out.below HBW.out) hs5
      obtain ⟨e1, e2, e3⟩ := enc_rows H20.out k hn hil
      rw [e1, rowsE_len] at kec
      unfold OutZ at kec
      dsimp only at kec
      obtain ⟨W, hW⟩ : ∃ W, W = wantI l k i := ⟨_, rfl⟩
      obtain ⟨g1, g2, g3, _⟩ := want_ok H20.out k i hil
      rw [← hW] at g2 g3
      have ked : ∀ A' c' w', Below w.heap.size w w' → (treeB (rowsE l k i)).length ≤ c' → (A' = none → c' = 0) → Bs w' A' (treeB (rowsE l k i)) → Calls Tryz.prog 39 #[.int .i64 2, .slice A' (treeB (rowsE l k i)).length c'] w' (fun z w'' => (∃ A'' m c'', z = .returned (.tuple #[.slice A'' m c'', .int .i64 0]) ∧ Hid (m = W.length) ∧ Sl w'' A'' (idc W)) ∧ Below w'.heap.size w' w'') := fun A' c' w' h hl h0 hs => by
        refine (edges_tree _ e2 A' c' hl h0 w' (HG.out.below h) (HZ.out.below h) hs).mono ?_
        rintro z w'' ⟨⟨A'', m'', L, c'', rfl, hm'', hL, _, _, _, hs''⟩, hb⟩
        rw [e3] at hL ⊢
        dsimp only at hL
        rw [if_pos rfl, HNN.out] at hL
        have hL2 := want_is H20.out k hL
        rw [← HNN.out, ← hW] at hL2
        subst hL2
        exact ⟨⟨A'', m'', c'', rfl, Lib.hid hm'', hs''⟩, hb⟩
      have ksm : ∀ A' B' c' d' m' w', m' = W.length → Sl w' A' (idc W) → Sl w' B' (idc W) → Calls Tryz.prog 41 #[.slice A' m' c', .slice B' m' d'] w' (fun z w'' => z = .returned (.bool true) ∧ Below w'.heap.size w' w'') := fun A' B' c' d' m' w' hm hA hB => by
        subst hm
        have := same_any W W g2 g2 (by omega) (by omega) A' B' c' d' w' hA hB
        rwa [decide_eq_true rfl] at this
      obtain ⟨T, hT⟩ : ∃ T, T = treeB (rowsE l k i) := ⟨_, rfl⟩
      rw [← hT] at kec ked
      obtain ⟨nb, hnb⟩ : ∃ nb, nb = T.length := ⟨_, rfl⟩
      rw [← hnb] at kec ked
      have KEC := Lib.hid kec; have KED := Lib.hid ked; have KSM := Lib.hid ksm
      have HM6W : Hid (m6 = W.length) := Lib.hid (by rw [HM6.out, hW])
      have S6 : Hid (Sl wr A6 (idc W)) := Lib.hid (by rw [hW]; exact HP.out.2.1)
      clear kec ked ksm hT hnb e1 e2 e3 g1 g2 g3 hw hs5 hm5 hc5 hil hW HW HM6 HP B1
      go_upto_region 17 with (first
        | (go_at_call 46; (with_reducible refine KEC.out.mono ?_); rintro z w2 ⟨⟨A2, c2, rfl, hc2, hz2, hs2⟩, hb2⟩
           have B2 := Lib.hid (HBW.out.trans (hb2.mono HBW.out.size)); have S62 := Lib.hid (S6.out.below hb2); have KED2 := Lib.hid (KED.out A2 c2 w2 B2.out hc2 hz2 hs2); clear hc2 hz2 hs2 hb2)
        | (go_at_call 39; (with_reducible refine KED2.out.mono ?_); rintro z w3 ⟨⟨A3, m3, c3, rfl, hm3, hs3⟩, hb3⟩
           have B3 := Lib.hid (B2.out.trans (hb3.mono B2.out.size)); have S63 := Lib.hid (S62.out.below hb3); have S33 := Lib.hid hs3; clear hb3 hs3))
      obtain rfl : m3 = m6 := by rw [hm3.out, HM6W.out]
      have KSM3 := Lib.hid (KSM.out A3 A6 c3 c6 m3 w3 hm3.out S33.out S63.out)
      clear KED2 KEC KED KSM S6 S62 S63 S33 HM6W hm3
      have z20 : Hid (All20 [zs20]) := Lib.hid (fun x hx => by obtain rfl := List.mem_singleton.1 hx; exact zs20_len)
      go_upto_block 2 with (first
        | (go_at_call 41; (with_reducible refine KSM3.out.mono ?_); rintro z w4 ⟨rfl, hb4⟩; have B4 := Lib.hid (B3.out.trans (hb4.mono B3.out.size)))
        | (refine wpList_bld26 rfl rfl ?_)
        | (refine wpList_one26 rfl _ rfl zs20 zs20_len rfl ?_))
      obtain ⟨W8, hW8⟩ : ∃ W8, W8 = w4.alloc (.cells (bvs zs20).toArray 26) := ⟨_, rfl⟩
      have b8 : Below w4.heap.size w4 W8 := by rw [hW8]; exact (Below.refl _ _).alloc (Nat.le_refl _) _
      have s8 : Sl W8 (some ⟨w4.heap.size, 0, none⟩) (idc [zs20]) := by
        have e : idc [zs20] = bvs zs20 := by simp [idc]
        rw [hW8, e]
        exact Sl.of_block (heap_alloc_new _ _) (fun j v hj => by simpa using hj)
      have z8 : W8.heap.size = w4.heap.size + 1 := by rw [hW8]; simp
      rw [← hW8]
      have AP8 : Hid (Apt W8 (.slice none 0 0) (some ⟨w4.heap.size, 0, none⟩) 1 (allI l 0)) := Lib.hid ⟨Nat.le_refl _, s8, fun ad e => by injection e with e; subst e; exact ⟨by show w4.heap.size < W8.heap.size; omega, by simp [Value.ownBlock]⟩⟩
      have B8 := Lib.hid (B4.out.trans (b8.mono B4.out.size))
      clear hW8 b8 s8 z8 KSM3 B2 B3 B4 z20 W
      go_step
      go_loopw [13, 14, 15, 16, 17] (fun t13 t14 t15 t16 t17 wr => EdR2 l i w t13 t14 t15 wr) (fun _ _ t15 _ _ _ => (i - intOf t15).toNat)
      case atStart => exact ⟨0, _, _, 1, 1, 0, 0, rfl, by omega, rfl, Lib.hid rfl, rfl, Lib.hid rfl, Lib.hid (Win.nil _ _ _ _), AP8, B8⟩
      case round =>
        obtain ⟨wo, rfl⟩ : ∃ wo, wo = wr := ⟨_, rfl⟩
        obtain ⟨j, A13, A14, m14, c14, m13, c13, rfl, hj, rfl, HM14, rfl, HM13, HW, HP, HBW⟩ := hrel
        by_cases hjn : j < i
        · have hil : j < l.length := by rw [← HNN.out]; exact hjn
          obtain ⟨ad, hA1, hrow⟩ := id_at HA.out H20.out hil
          subst hA1
          obtain ⟨x, hx⟩ : ∃ x, x = l.getD j [] := ⟨_, rfl⟩
          have x20 : x.length = 20 := by rw [hx]; exact get20 H20.out j hil
          rw [← hx] at hrow
          have LX := Lib.hid (fun w' (h : Below w.heap.size w w') => load_id x x20 (ad.add (j * 20)) w' (hrow.below h))
          have X20 := Lib.hid x20
          obtain ⟨_, p20, pl, _⟩ := par_ok H20.out j (by omega)
          obtain ⟨_, a20, al, _⟩ := all_ok H20.out j (by omega)
          have PS : Hid (parI l (j + 1) = if x ∈ parI l j then parI l j else parI l j ++ [x]) := Lib.hid (by rw [parI, ← hx])
          have AS : Hid (allI l (j + 1) = putI (allI l j) x) := Lib.hid (by rw [allI, ← hx])
          obtain ⟨P, hP⟩ : ∃ P, P = parI l j := ⟨_, rfl⟩
          rw [← hP] at p20 pl PS HM13 HW
          have P20 := Lib.hid p20; have PL := Lib.hid pl; have A20 := Lib.hid a20; have AL := Lib.hid al
          have hm13 : m13 ≤ 20 := by rw [HM13.out]; omega
          clear hrow hx x20 p20 pl a20 al hP hil
          go_upto_block 4 with fail
          go_step
          go_loopw [16, 17] (fun t16 t17 wi => ∃ (kk : Nat) (q : Bool), t17 = .int .i64 (kk : Int) ∧ t16 = .bool q ∧ kk ≤ m13 ∧ Hid (q = decide (x ∈ P.take kk)) ∧ Hid (Below wo.heap.size wo wi)) (fun _ t17 _ => (m13 - intOf t17).toNat)
          case atStart => exact ⟨0, false, rfl, rfl, by omega, Lib.hid (by simp), Lib.hid (Below.refl _ _)⟩
          case round =>
            obtain ⟨kk, q, rfl, rfl, hkk, HQ, HBI⟩ := hrel
            by_cases hkm : kk < m13
            · have hkp : kk < P.length := by rw [← HM13.out]; exact hkm
              have hw13 : Win wo w.heap.size 27 20 (.slice A13 m13 c13) m13 (idc P) := by have := HW.out; rwa [← HM13.out] at this
              obtain ⟨pd, hp1, hprow⟩ := id_at hw13.at_ P20.out hkp
              subst hp1
              obtain ⟨y, hy⟩ : ∃ y, y = P.getD kk [] := ⟨_, rfl⟩
              have y20 : y.length = 20 := by rw [hy]; exact get20 P20.out kk hkp
              rw [← hy] at hprow
              have TK : Hid (P.take (kk + 1) = P.take kk ++ [y]) := Lib.hid (by
                rw [hy, List.take_add_one, List.getD_eq_getElem?_getD, List.getElem?_eq_getElem hkp]; rfl)
              have BW := Lib.hid (fun w' (h : Below wr.heap.size wr.drew w') => HBI.out.trans ((bel_undrew h).mono HBI.out.size))
              have LY := Lib.hid (fun w' (h : Below wo.heap.size wo w') => load_id y y20 (pd.add (kk * 20)) w' (hprow.below h))
              have LX2 := Lib.hid (fun w' (h : Below wo.heap.size wo w') => LX.out w' (HBW.out.trans (h.mono HBW.out.size)))
              have Y20 := Lib.hid y20
              clear hprow hy y20 hw13 hkp
              cases q with
              | true =>
                have HQ2 : Hid (true = decide (x ∈ P.take (kk + 1))) := Lib.hid (by
                  have := HQ.out
                  rw [Eq.comm, decide_eq_true_eq] at this ⊢
                  rw [TK.out]
                  exact List.mem_append.2 (.inl this))
                go_upto_region 28 with fail
                refine wp_region_plan [(0, false), (1, false), (2, false), (3, false), (4, false), (5, false), (6, false), (7, false), (8, false), (9, false), (10, false), (11, false), (12, false)] (fun u v => Below u.heap.size u v) bel_refl bel_trans (by kernel_rfl) (by kernel_rfl) ?_
                iterate 13 (refine wpG_still _ rfl rfl ?_; go_big_quiet_step ((intro hb; rfl)); refine wpQuiet_nil ?_)
                refine wpG_nil ?_
                go_wp2
                go_roundw
                case rel => exact ⟨kk + 1, true, by simp, rfl, by omega, HQ2, Lib.hid HBI.out.drew⟩
                case measure => simp only [intOf]; omega
              | false =>
                have HQ2 : Hid (decide (y = x) = decide (x ∈ P.take (kk + 1))) := Lib.hid (by
                  have := HQ.out
                  rw [Eq.comm, decide_eq_false_iff_not] at this
                  rw [TK.out]
                  refine decide_eq_decide.2 ⟨fun e => by rw [e]; simp, fun hm => ?_⟩
                  rcases List.mem_append.1 hm with h | h
                  · exact absurd h this
                  · exact (List.mem_singleton.1 h).symm)
                go_upto_region 28 with fail
                refine wp_region_plan [(0, false), (1, false), (2, false), (3, false), (4, false), (5, false), (6, false), (7, false), (8, false), (9, false), (10, false), (11, false), (12, false)] (fun u v => Below u.heap.size u v) bel_refl bel_trans (by kernel_rfl) (by kernel_rfl) ?_
                iterate 10 (refine wpG_still _ rfl rfl ?_; first
                  | (refine wpQuiet_load 27 (.tmp 103) rfl (pd.add (kk * 20)) rfl (idv y) (fun w' h => LY.out w' (BW.out w' h)) _ rfl rfl ?_; simp only [List.set_cons_succ, List.set_cons_zero])
                  | (refine wpQuiet_load 27 (.tmp 107) rfl (ad.add (j * 20)) rfl (idv x) (fun w' h => LX2.out w' (BW.out w' h)) _ rfl rfl ?_; simp only [List.set_cons_succ, List.set_cons_zero])
                  | (go_big_quiet_step ((intro hb; rfl))); refine wpQuiet_nil ?_)
                (refine wpG_still _ rfl rfl ?_; refine wpQuiet_pureC 109 rfl rfl (.bool (decide (y = x))) (fun w _ => run_eqI (.tmp 104) (.tmp 108) _ rfl y x Y20.out X20.out rfl rfl) ?_; simp only [List.set_cons_succ, List.set_cons_zero]; refine wpQuiet_nil ?_)
                iterate 2 (refine wpG_still _ rfl rfl ?_; go_big_quiet_step ((intro hb; rfl)); refine wpQuiet_nil ?_)
                refine wpG_nil ?_
                go_wp2
                go_roundw
                case rel => exact ⟨kk + 1, decide (y = x), by simp, rfl, by omega, HQ2, Lib.hid HBI.out.drew⟩
                case measure => simp only [intOf]; omega
            · have hke : kk = m13 := by omega
              have HQF : Hid (q = decide (x ∈ P)) := Lib.hid (by
                have := HQ.out
                rwa [hke, HM13.out, List.take_length] at this)
              have W2W := Lib.hid (HW.out.below HBI.out)
              have P2P := Lib.hid (HP.out.below HBI.out)
              have BW2 := Lib.hid (HBW.out.trans (HBI.out.mono HBW.out.size))
              clear hke HQ HW HP HBW HBI
              cases q with
              | true =>
                have PS2 : Hid (parI l (j + 1) = P) := Lib.hid (by rw [PS.out, if_pos (of_decide_eq_true HQF.out.symm)])
                have LXX := LX.out wr BW2.out
                have kp0 := putR_any (allI l j) A20.out (by have := AL.out; omega) A14 c14 P2P.out.1 x X20.out wr P2P.out.2.1
                rw [← HM14.out, ← AS.out] at kp0
                have KP := Lib.hid kp0
                clear kp0
                go_wp2_with (first
                  | (refine wpList_loadG 27 (.tmp 123) rfl (ad.add (j * 20)) rfl _ LXX rfl ?_)
                  | (go_at_call 49; (with_reducible refine KP.out.mono ?_); rintro z wp ⟨A7, c7, rfl, hc7, hs7, hb7, ho7⟩))
                have HPA := Lib.hid (P2P.out.put (fun g e => (W2W.out.block g e).2) hb7 hc7 hs7 ho7)
                have HWP : Hid (Win wp w.heap.size 27 20 (.slice A13 m13 c13) (parI l (j + 1)).length (idc (parI l (j + 1)))) := Lib.hid (by rw [PS2.out]; exact W2W.out.below hb7)
                have HBP := Lib.hid (BW2.out.trans (hb7.mono BW2.out.size))
                have HM2 : Hid (m13 = (parI l (j + 1)).length) := Lib.hid (by rw [PS2.out]; exact HM13.out)
                clear hc7 hs7 hb7 ho7 KP LXX
                go_roundw
                case rel => exact ⟨j + 1, A13, A7, _, c7, m13, c13, by simp, by omega, rfl, Lib.hid rfl, rfl, HM2, HWP, HPA, HBP⟩
                case measure => simp only [intOf]; omega
              | false =>
                have PS2 : Hid (parI l (j + 1) = P ++ [x]) := Lib.hid (by rw [PS.out, if_neg (of_decide_eq_false HQF.out.symm)])
                have LX1 := LX.out wr BW2.out
                have fl := fold_lit x X20.out
                rw [← zlit] at fl
                have hyl := X20.out
                have b6 : Below wr.heap.size wr (wr.alloc (.cells (bvs x).toArray 27)) := (Below.refl _ _).alloc (Nat.le_refl _) _
                have s6 : Sl (wr.alloc (.cells (bvs x).toArray 27)) (some ⟨wr.heap.size, 0, none⟩) (idc [x]) := by
                  have : idc [x] = bvs x := by simp [idc]
                  rw [this]
                  exact Sl.of_block (heap_alloc_new _ _) (fun j v hj => by simpa using hj)
                have S6 := Lib.hid s6
                have W6W := Lib.hid (W2W.out.below b6)
                have P6P := Lib.hid (P2P.out.below b6)
                have B6 := Lib.hid (BW2.out.trans (b6.mono BW2.out.size))
                clear s6 b6
                go_upto_region 31 with (first
                  | (refine wpList_loadG 27 (.tmp 116) rfl (ad.add (j * 20)) rfl _ LX1 rfl ?_)
                  | (refine wpList_appI rfl (.tmp 113) (.tmp 118) rfl w.heap.size (.slice A13 m13 c13) P rfl W6W.out (some ⟨wr.heap.size, 0, none⟩) 1 1 [x] rfl (fun z hz => by obtain rfl := List.mem_singleton.1 hz; exact X20.out) rfl S6.out (by have := PL.out; simp only [List.length_singleton]; omega) B6.out.size ?_
                     intro v7 w7 hw7 hk7 ho7))
                have HW7 : Hid (Win w7 w.heap.size 27 20 v7 (parI l (j + 1)).length (idc (parI l (j + 1)))) := Lib.hid (by rw [PS2.out]; exact hw7)
                have HP7 := Lib.hid (P6P.out.kp hk7 ho7)
                have B7 := Lib.hid (B6.out.trans (hk7.toBelow B6.out.size (fun q hq e => by have := (W6W.out.block _ e).1; omega)))
                clear hw7 hk7 ho7 LX1
                obtain ⟨m9, hm9⟩ : ∃ m9, m9 = (parI l (j + 1)).length := ⟨_, rfl⟩
                have hw9 := HW7.out
                rw [← hm9] at hw9
                obtain ⟨A9, c9, rfl, _, _, _⟩ := hw9.reads
                have HM9 := Lib.hid hm9
                clear hw9 hm9
                have LXX := LX.out w7 B7.out
                have kp0 := putR_any (allI l j) A20.out (by have := AL.out; omega) A14 c14 HP7.out.1 x X20.out w7 HP7.out.2.1
                rw [← HM14.out, ← AS.out] at kp0
                have KP := Lib.hid kp0
                clear kp0
                go_wp2_with (first
                  | (refine wpList_loadG 27 (.tmp 123) rfl (ad.add (j * 20)) rfl _ LXX rfl ?_)
                  | (go_at_call 49; (with_reducible refine KP.out.mono ?_); rintro z wp ⟨A7, c7, rfl, hc7, hs7, hb7, ho7⟩))
                have HPA := Lib.hid (HP7.out.put (fun g e => (HW7.out.block g e).2) hb7 hc7 hs7 ho7)
                have HWP := Lib.hid (HW7.out.below hb7)
                have HBP := Lib.hid (B7.out.trans (hb7.mono B7.out.size))
                clear hc7 hs7 hb7 ho7 KP LXX
                go_roundw
                case rel => exact ⟨j + 1, A9, A7, _, c7, m9, c9, by simp, by omega, rfl, Lib.hid rfl, rfl, HM9, HWP, HPA, HBP⟩
                case measure => simp only [intOf]; omega
        · have hle : j = i := by omega
          subst hle
          have hil : j ≤ l.length := by rw [← HNN.out]; exact Nat.le_refl _
          obtain ⟨_, p20, pl, _⟩ := par_ok H20.out j hil
          obtain ⟨_, a20, al, _⟩ := all_ok H20.out j hil
          obtain ⟨g1, g2, g3⟩ := enc_par H20.out (by rw [← HNN.out]; exact hn)
          rw [← HNN.out] at g1 g2 g3
          have hw13 : Win wo w.heap.size 27 20 (.slice A13 m13 c13) m13 (idc (parI l j)) := by have := HW.out; rwa [← HM13.out] at this
          have h013 := win_null hw13
          have ke := encC_any (cmE0 l j) zs20_len p20 (show (parI l j).length < 256 by omega) (by simp [cmE0]) (by simp [cmE0]) (by simp [cmE0]) A13 c13 h013 wo hw13.at_
          rw [g1] at ke
          unfold OutB at ke
          rw [show (cmE0 l j).parents.length = m13 from HM13.out.symm] at ke
          dsimp only at ke
          obtain ⟨Z, hZ⟩ : ∃ Z, Z = allI l j := ⟨_, rfl⟩
          obtain ⟨P, hP⟩ : ∃ P, P = parI l j := ⟨_, rfl⟩
          obtain ⟨T, hT⟩ : ∃ T, T = cmB (cmE0 l j) := ⟨_, rfl⟩
          rw [← hT] at ke g2 g3
          have ked : ∀ A' c' w', Below w.heap.size w w' → Bs w' A' T → Calls Tryz.prog 39 #[.int .i64 1, .slice A' T.length c'] w' (fun z w'' => (∃ A'' m' c'', z = .returned (.tuple #[.slice A'' m' c'', .int .i64 0]) ∧ Hid (m' = Z.length) ∧ Sl w'' A'' (idc Z)) ∧ Below w'.heap.size w' w'') := fun A' c' w' h hs => by
            refine (edges_commit T g2 A' c' w' (HG.out.below h) hs).mono ?_
            rintro z w'' ⟨⟨A'', m'', L, c'', rfl, hm'', hL, _, _, _, hs''⟩, hb⟩
            rw [g3] at hL ⊢
            dsimp only at hL
            rw [if_pos rfl] at hL
            have hL2 := all_is H20.out (by rw [← HNN.out]; exact hL)
            rw [← HNN.out, ← hZ] at hL2
            subst hL2
            exact ⟨⟨A'', m'', c'', rfl, Lib.hid hm'', hs''⟩, hb⟩
          have kpa : ∀ A' c' w', Below w.heap.size w w' → Bs w' A' T → Calls Tryz.prog 44 #[.int .i64 1, .slice A' T.length c'] w' (fun z w'' => (∃ A'' m' c'', z = .returned (.slice A'' m' c'') ∧ Hid (m' = P.length) ∧ Sl w'' A'' (idc P)) ∧ Below w'.heap.size w' w'') := fun A' c' w' h hs => by
            have := parents_any T g2 A' c' w' (HG.out.below h) hs
            rw [g3] at this
            rw [hP]
            exact this
          have kof : ∀ w', Below wo.heap.size wo w' → Calls Tryz.prog 50 #[.slice A13 m13 c13] w' (fun z w'' => (∃ A'' c'', z = .returned (.slice A'' m13 c'') ∧ Sl w'' A'' (idc P)) ∧ Below w'.heap.size w' w'') := fun w' h => by
            have := of_any (parI l j) p20 (by omega) A13 c13 w' (hw13.at_.below h)
            rw [← HM13.out] at this
            refine this.mono ?_
            rintro z w'' ⟨v, rfl, ho, hb⟩
            obtain ⟨A'', c'', rfl, _, _, hs⟩ := (Win.ofOwns ho).reads
            rw [hP]
            exact ⟨⟨A'', c'', rfl, hs⟩, hb⟩
          have ksm : ∀ (Q : List (List UInt8)), All20 Q → Q.length < 256 → ∀ A' B' c' d' m' n' w', m' = Q.length → n' = Q.length → Sl w' A' (idc Q) → Sl w' B' (idc Q) → Calls Tryz.prog 41 #[.slice A' m' c', .slice B' n' d'] w' (fun z w'' => z = .returned (.bool true) ∧ Below w'.heap.size w' w'') := fun Q g2 g3 A' B' c' d' m' n' w' hm hn hA hB => by
            subst hm
            subst hn
            have := same_any Q Q g2 g2 g3 g3 A' B' c' d' w' hA hB
            rwa [decide_eq_true rfl] at this
          have ksz := ksm Z (by rw [hZ]; exact a20) (by rw [hZ]; omega)
          have ksp := ksm P (by rw [hP]; exact p20) (by rw [hP]; omega)
          obtain ⟨nb, hnb⟩ : ∃ nb, nb = T.length := ⟨_, rfl⟩
          rw [← hnb] at ke ked kpa
          obtain ⟨K, hK⟩ : ∃ K : Ck, K = ⟨zs20, .slice A13 m13 c13, [97], [98], []⟩ := ⟨_, rfl⟩
          rw [show ck (cmE0 l j) (.slice A13 m13 c13) = K from hK.symm] at ke
          have KE := Lib.hid ke; have KED := Lib.hid ked; have KPA := Lib.hid kpa; have KOF := Lib.hid kof; have KSZ := Lib.hid ksz; have KSP := Lib.hid ksp; have HK := Lib.hid hK
          have HMZ : Hid (m14 = Z.length) := Lib.hid (by rw [HM14.out, hZ])
          have HMP : Hid (m13 = P.length) := Lib.hid (by rw [HM13.out, hP])
          have S14 : Hid (Sl wo A14 (idc Z)) := Lib.hid (by rw [hZ]; exact HP.out.2.1)
          clear ke ked kpa kof ksm ksz ksp hT hnb g1 g2 g3 hw13 h013 hil hZ hP p20 pl a20 al HW HP HM13 HM14 hK AP8 B8
          go_upto_region 34 with (first
            | (refine wpList_bldE0 rfl (.tmp 127) rfl A13 m13 c13 rfl ?_; rw [← HK.out])
            | (go_at_call 23; (with_reducible refine KE.out.mono ?_); rintro z w2 ⟨⟨A2, c2, rfl, hc2, hs2⟩, hb2⟩
               have B2 := Lib.hid (HBW.out.trans (hb2.mono HBW.out.size)); have O2 := Lib.hid hb2; have S2 := Lib.hid hs2; have S142 := Lib.hid (S14.out.below hb2); clear hs2 hb2 hc2)
            | (go_at_call 39; (with_reducible refine (KED.out _ _ _ B2.out S2.out).mono ?_); rintro z w3 ⟨⟨A3, m3, c3, rfl, hm3, hs3⟩, hb3⟩
               have B3 := Lib.hid (B2.out.trans (hb3.mono B2.out.size)); have O3 := Lib.hid (O2.out.trans (hb3.mono O2.out.size)); have S3 := Lib.hid hs3; have S23 := Lib.hid (S2.out.below hb3); have S143 := Lib.hid (S142.out.below hb3); clear hb3 hs3))
          go_wp2_with (first
            | (go_at_call 41; (with_reducible refine (KSZ.out _ _ _ _ _ _ _ hm3.out HMZ.out S3.out S143.out).mono ?_); rintro z w4 ⟨rfl, hb4⟩
               have B4 := Lib.hid (B3.out.trans (hb4.mono B3.out.size)); have O4 := Lib.hid (O3.out.trans (hb4.mono O3.out.size)); have S24 := Lib.hid (S23.out.below hb4); clear KSZ hb4)
            | (go_at_call 44; (with_reducible refine (KPA.out _ _ _ B4.out S24.out).mono ?_); rintro z w5 ⟨⟨A9, m9, c9, rfl, hm9, hs9⟩, hb5⟩
               have B5 := Lib.hid (B4.out.trans (hb5.mono B4.out.size)); have O5 := Lib.hid (O4.out.trans (hb5.mono O4.out.size)); have S9 := Lib.hid hs9; clear hb5 hs9)
            | (go_at_call 50; (with_reducible refine (KOF.out _ O5.out).mono ?_); rintro z w6 ⟨⟨A10, c10, rfl, hs10⟩, hb6⟩
               have B6 := Lib.hid (B5.out.trans (hb6.mono B5.out.size)); have S96 := Lib.hid (S9.out.below hb6); have S10 := Lib.hid hs10; clear hb6 hs10)
            | (go_at_call 41; (with_reducible refine (KSP.out _ _ _ _ _ _ _ hm9.out HMP.out S96.out S10.out).mono ?_); rintro z w7 ⟨rfl, hb7⟩
               have B7 := Lib.hid (B6.out.trans (hb7.mono B6.out.size))))
          go_ret
          exact ⟨rfl, B7.out⟩
theorem edges_all (l : List (List UInt8)) (h20 : All20 l) (k : List Bool) (A : Option Addr) (cap : Nat) (B : Option Addr) (d : Nat) (w : World) (hg : Gb w) (hz : Gz w) (hA : Sl w A (idc l)) (hB : Sl w B (k.map Value.bool)) :
    Calls Tryz.prog 9 #[.slice A l.length cap, .slice B k.length d] w fun e w' => e = .returned (.bool true) ∧ Below w.heap.size w w' := by
  by_cases h1 : 20 < l.length ∨ k.length < l.length
  · exact edges_pass l.length k.length A B cap d w hg h1
  · exact edges_law l h20 k (by omega) (by omega) A cap B d w hg hz hA hB
end
end Go.Proofs.YtcedfapcpmedfaaGreatDoor
