/- A block of SHA-1, eaten by the program: the words turn by the function of ShaP. Condition: the hash's own memory. -/
import Derived.Test.YtmfhlhjnfaiegaaDoorShaA
import Derived.Test.YtmfhlhjnfaiegaaDoorMemD
namespace Go.Proofs.YtmfhlhjnfaiegaaDoor
open Go.RowKit
set_option maxRecDepth 100000
set_option maxHeartbeats 4000000
set_option linter.unusedVariables false
/-- words as values -/
def wv (l : List Nat) : List Value := l.map fun n : Nat => Value.int .u32 (n : Int)
@[simp] theorem wv_length (l : List Nat) : (wv l).length = l.length := by simp [wv]
theorem wv_get (l : List Nat) (j : Nat) (h : j < l.length) : (wv l)[j]? = some (.int .u32 ((l.getD j 0 : Nat) : Int)) := by
  simp [wv, h]
theorem wv_at (l : List Nat) (j : Nat) (h : j < l.length) : (wv l).toArray[j]? = some (.int .u32 ((l.getD j 0 : Nat) : Int)) := by
  simp [wv, h]
theorem wv_set (l : List Nat) (j n : Nat) : (wv l).toArray.setIfInBounds j (.int .u32 (n : Int)) = (wv (l.set j n)).toArray := by
  apply Array.ext'
  simp [wv, List.map_set]
theorem wv_one (l : List Nat) : (wv l).toArray.all (·.oneCell') = true := by
  rw [Array.all_eq_true]
  intro i h
  simp [wv, Value.oneCell']
def hcells (h : Hs) : List Value := wv h.words.toL ++ (bvs h.rest ++ [.int .i64 (h.n : Int)])
theorem arr_idx (T e m : Nat) (hT : Tryd.prog.underlying T = some (.array m e)) (hpl : Tryd.prog.plainKey e = true) (hs : ∀ w, (sizeOf e).run Tryd.prog w = .ok 1 w) (vs : List Value) (k : Nat) (hk : k < m) (v : Value) (hv : vs[k]? = some v) (w : World) :
    (Instr.index T (.agg vs.toArray) (.int .i64 (k : Int))).run Tryd.prog w = .ok v w := by
  have hp : (part e vs.toArray k).run Tryd.prog w = .ok v w := run_part_plain w hpl (by simpa using hv)
  have h2 : (k : Int) < (m : Int) := by omega
  simp [Instr.index, asIntOf, run_underlying hT, hs w, hp, h2, hk, Result.andThen]
theorem drewN_drewN (w : World) (n m : Nat) : (w.drewN n).drewN m = w.drewN (n + m) := by
  unfold World.drewN; simp [Nat.add_assoc]
theorem mixK_lt (t : Nat) : mixK t < 4294967296 := by
  unfold mixK
  repeat' split
  all_goals decide
theorem quietD {P : Program} {f : FuncId} {args : Array Value} {W w : World} {v : Value} (hb : ∃ n, w = W.drewN n) (h : ∀ w, Calls P f args w fun e w' => e = .returned v ∧ ∃ m, w' = w.drewN m) :
    Calls P f args w fun e w' => e = .returned v ∧ ∃ n, w' = W.drewN n := by
  obtain ⟨n, rfl⟩ := hb
  exact (h _).mono fun _ _ ⟨he, m, hm⟩ => ⟨he, n + m, by rw [hm, drewN_drewN]⟩
theorem kp_cell {S : Nat → Prop} {w w' : World} (h : Kp S w w') {g : Nat} {o : Obj} (hg : w.heap[g]? = some o) (hs : ¬ S g) : w'.heap[g]? = some o :=
  (h.block g (Array.getElem?_eq_some_iff.1 hg).1 hs).trans hg
/-- words half added -/
def plusN (i : Nat) (s t : S5) : List Nat := (s.plus t).toL.take i ++ s.toL.drop i
def hcellsN (i : Nat) (h : Hs) (t : S5) : List Value := wv (plusN i h.words t) ++ (bvs h.rest ++ [.int .i64 (h.n : Int)])
theorem toL_lt {s : S5} (h : s.Ok) (i : Nat) : s.toL.getD i 0 < 4294967296 := by
  obtain ⟨a, b, c, d, e⟩ := h
  match i with
  | 0 => exact a
  | 1 => exact b
  | 2 => exact c
  | 3 => exact d
  | 4 => exact e
  | n + 5 => simp [S5.toL]
theorem hcellsN_at (h : Hs) (s : S5) (i : Nat) (hi : i < 5) : (hcellsN i h s).toArray[i]? = some (.int .u32 ((h.words.toL.getD i 0 : Nat) : Int)) := by
  match i, hi with
  | 0, _ => rfl
  | 1, _ => rfl
  | 2, _ => rfl
  | 3, _ => rfl
  | 4, _ => rfl
theorem hcellsN_set (h : Hs) (s : S5) (i : Nat) (hi : i < 5) : (hcellsN i h s).toArray.setIfInBounds i (.int .u32 ((add4 (h.words.toL.getD i 0) (s.toL.getD i 0) : Nat) : Int)) = (hcellsN (i + 1) h s).toArray := by
  apply Array.ext'
  match i, hi with
  | 0, _ => rfl
  | 1, _ => rfl
  | 2, _ => rfl
  | 3, _ => rfl
  | 4, _ => rfl
theorem hcellsN_five (h : Hs) (s : S5) : hcellsN 5 h s = hcells ⟨h.words.plus s, h.rest, h.n⟩ := rfl
theorem eat_any (g : Nat) (h : Hs) (ok : h.Ok) (p : List UInt8) (hp : p.length = 64) (w : World) (hg : w.heap[g]? = some (.cells (hcells h).toArray 107 (0, 0))) :
    Calls Tryd.prog 66 #[.pointer (some ⟨g, 0, none⟩), .agg (bvs p).toArray] w fun e w' => e = .returned (.tuple #[]) ∧ w'.heap[g]? = some (.cells (hcells ⟨blk h.words p, h.rest, h.n⟩).toArray 107 (0, 0)) ∧ Kp (fun k => k = g) w w' := by
  obtain ⟨W0, hW0⟩ : ∃ W0, W0 = (w.alloc (.cells (bvs p).toArray 105)).alloc (.cells Tryd.zeroCells118 118) := ⟨_, rfl⟩
  have hz80 : Tryd.zeroCells118 = (wv (wb p 0)).toArray := by kernel_rfl
  have hb0 : Below w.heap.size w W0 := by rw [hW0]; exact ((Below.refl _ _).alloc (Nat.le_refl _) _).alloc (by simp) _
  have r0 : W0.heap[w.heap.size]? = some (.cells (bvs p).toArray 105 (0, 0)) := by
    rw [hW0]
    exact (((Below.refl _ _).alloc (Nat.le_refl _) _ : Below (w.alloc (.cells (bvs p).toArray 105)).heap.size _ _).block _ (by simp)).trans (heap_alloc_new _ _)
  have r1 : W0.heap[w.heap.size + 1]? = some (.cells (wv (wb p 0)).toArray 118 (0, 0)) := by
    rw [hW0, ← hz80]
    have := heap_alloc_new (w.alloc (.cells (bvs p).toArray 105)) (.cells Tryd.zeroCells118 118)
    rwa [show (w.alloc (.cells (bvs p).toArray 105)).heap.size = w.heap.size + 1 by simp] at this
  have z64 : (Tryd.prog.info? 105).map (·.size) = some (bvs p).toArray.size := by rw [show (bvs p).toArray.size = 64 by simp [hp]]; kernel_rfl
  have hgl : g < w.heap.size := (Array.getElem?_eq_some_iff.1 hg).1
  have HW0 := Lib.hid hW0; have HB0 := Lib.hid hb0; have R0 := Lib.hid r0; have R1 := Lib.hid r1; have Z64 := Lib.hid z64; have HP := Lib.hid hp; have HG := Lib.hid hg
  clear hW0 hb0 r0 r1 z64 hp hg hz80
  go_enter Tryd.func66, Tryd.ntmps66
  go_upto_region 2 with fail
  rw [← HW0.out]
  go_wp2_with (refine wpList_load_row rfl 105 (.tmp 3) rfl w.heap.size rfl 105 (bvs p).toArray (0, 0) _ R0.out Tryd.underlying105 rfl Z64.out ?_)
  go_loopw [20] (fun t20 wr => ∃ i : Nat, t20 = .int .i64 (i : Int) ∧ i ≤ 64 ∧ Hid (wr.heap[w.heap.size + 1]? = some (.cells (wv (wb p i)).toArray 118 (0, 0))) ∧ Below w.heap.size w wr) (fun t20 _ => (64 - intOf t20).toNat)
  case atStart => exact ⟨0, rfl, by omega, R1, HB0.out⟩
  case round =>
    clear R0 R1 HB0 HW0 Z64
    obtain ⟨i, rfl, hi, R, hbw⟩ := hrel
    by_cases h64 : i < 64
    · obtain ⟨j, hj⟩ : ∃ j, j = i / 4 := ⟨_, rfl⟩
      have hkj : (i : Int) / 4 = (j : Int) := by omega
      have hj80 : j < 80 := by omega
      have hwj : IntKind.i64.wrap (j : Int) = (j : Int) := IntWalk.i64_in _ (by omega)
      obtain ⟨c, hc⟩ : ∃ c, c = p[i]'(by rw [HP.out]; exact h64) := ⟨_, rfl⟩
      have hix := fun w => arr_idx 105 5 64 Tryd.underlying105 (by kernel_rfl) (fun w => by kernel_rfl) (bvs p) i h64 (.int .u8 (c.toNat : Int)) (by rw [hc]; simp [bvs, bv, HP.out, h64]) w
      obtain ⟨x, hx⟩ : ∃ x, x = (wb p i).getD j 0 := ⟨_, rfl⟩
      have hcell : wr.cell? ⟨w.heap.size + 1, j, none⟩ = some (.int .u32 (x : Int)) := by
        rw [cell_of_row _ _ _ _ _ _ R.out, hx]
        exact wv_at _ j (by rw [wb_len]; exact hj80)
      have hfz : wr.frozen? ⟨w.heap.size + 1, j, none⟩ = false := frozen_of_row _ _ _ _ _ R.out
      have hxl : x < 4294967296 := by rw [hx]; exact wb_w hi j
      have hcl := c.toNat_lt
      obtain ⟨m, hm⟩ : ∃ m : Nat, m = x * 256 % 4294967296 := ⟨_, rfl⟩
      have hml : m < 4294967296 := by rw [hm]; exact Nat.mod_lt _ (by decide)
      have hsh : (x : Int) * 256 % 4294967296 = (m : Int) := by omega
      have hor := u32_or (a := m) (b := c.toNat) hml (by omega)
      obtain ⟨y, hy⟩ : ∃ y : Nat, y = m ||| c.toNat := ⟨_, rfl⟩
      rw [← hy] at hor
      have hnew : wb p (i + 1) = (wb p i).set j y := by
        rw [wb, ← hj, ← hx, ← hm, hy]
        congr 2
        rw [hc]
        unfold byteN
        rw [List.getD_eq_getElem?_getD, List.getElem?_eq_getElem (by rw [HP.out]; exact h64)]
        rfl
      have HJ := Lib.hid hj; have HC := Lib.hid hc; have HX := Lib.hid hx; have HM := Lib.hid hm; have HY := Lib.hid hy; have HN := Lib.hid hnew
      clear hj hc hx hm hy hnew
      go_wp2
      go_roundw
      case rel => exact ⟨i + 1, by simp, by omega, Lib.hid (by rw [heap_setCell_same wr (w.heap.size + 1) j _ _ _ R.out, wv_set, HN.out]), hbw.setCell (by simp) _⟩
      case measure => simp only [intOf]; omega
    · have hi64 : i = 64 := by omega
      have r := R.out
      rw [hi64, wb_all] at r
      have R1 := Lib.hid r
      have hd : decide ((i : Int) < 64) = false := decide_eq_false (by omega)
      obtain ⟨i5, hi5⟩ : ∃ i5 : Int, i5 = (i : Int) := ⟨_, rfl⟩
      rw [← hi5] at hd ⊢
      clear r R hi5 hi64 h64 hi
      go_wp2_with fail
      clear hd
      go_loopw [7] (fun t7 wq => ∃ k t : Nat, t7 = .int .i64 (t : Int) ∧ Hid (t = 16 + k) ∧ 16 ≤ t ∧ t ≤ 80 ∧ k ≤ 64 ∧ Hid (wq.heap[w.heap.size + 1]? = some (.cells (wv (wx k (w0 p))).toArray 118 (0, 0))) ∧ Below w.heap.size w wq) (fun t7 _ => (80 - intOf t7).toNat)
      case atStart => exact ⟨0, 16, rfl, Lib.hid rfl, by omega, by omega, by omega, R1, hbw⟩
      case round =>
        clear R1 hbw
        obtain ⟨k, t, rfl, HTK, ht16, ht80, hk, R, hbw⟩ := hrel
        by_cases h80 : t < 80
        · have htk := HTK.out
          have hlen : (wx k (w0 p)).length = 80 := by rw [wx_len, w0_len]
          have hw := wx_w (w0_w p) k
          have hfz : wr.frozen? ⟨w.heap.size + 1, t, none⟩ = false := frozen_of_row _ _ _ _ _ R.out
          obtain ⟨a3, h3⟩ : ∃ a, a = 13 + k := ⟨_, rfl⟩
          obtain ⟨a8, h8⟩ : ∃ a, a = 8 + k := ⟨_, rfl⟩
          obtain ⟨a14, h14⟩ : ∃ a, a = 2 + k := ⟨_, rfl⟩
          have s3 : IntKind.i64.wrap ((t : Int) - 3) = (a3 : Int) := by rw [IntWalk.i64_in _ (by omega)]; omega
          have s8 : IntKind.i64.wrap ((t : Int) - 8) = (a8 : Int) := by rw [IntWalk.i64_in _ (by omega)]; omega
          have s14 : IntKind.i64.wrap ((t : Int) - 14) = (a14 : Int) := by rw [IntWalk.i64_in _ (by omega)]; omega
          have s16 : IntKind.i64.wrap ((t : Int) - 16) = (k : Int) := by rw [IntWalk.i64_in _ (by omega)]; omega
          have l3 : (a3 : Int) < 80 := by omega
          have l8 : (a8 : Int) < 80 := by omega
          have l14 : (a14 : Int) < 80 := by omega
          have l16 : (k : Int) < 80 := by omega
          have cat : ∀ a, a < 80 → wr.cell? ⟨w.heap.size + 1, a, none⟩ = some (.int .u32 (((wx k (w0 p)).getD a 0 : Nat) : Int)) := fun a ha => by
            rw [cell_of_row _ _ _ _ _ _ R.out]
            exact wv_at _ a (by omega)
          have c3 := cat a3 (by omega); have c8 := cat a8 (by omega); have c14 := cat a14 (by omega); have c16 := cat k (by omega); have ct := cat t h80
          generalize (wx k (w0 p)).getD t 0 = xt at ct
          have w3 := hw a3; have w8 := hw a8; have w14 := hw a14; have w16 := hw k
          have hnew : wx (k + 1) (w0 p) = (wx k (w0 p)).set t (rotl ((wx k (w0 p)).getD a3 0 ^^^ (wx k (w0 p)).getD a8 0 ^^^ (wx k (w0 p)).getD a14 0 ^^^ (wx k (w0 p)).getD k 0) 1) := by
            rw [wx, h3, h8, h14, htk]
          generalize (wx k (w0 p)).getD a3 0 = x3 at c3 w3 hnew
          generalize (wx k (w0 p)).getD a8 0 = x8 at c8 w8 hnew
          generalize (wx k (w0 p)).getD a14 0 = x14 at c14 w14 hnew
          generalize (wx k (w0 p)).getD k 0 = x16 at c16 w16 hnew
          have e1 := u32_xor w3 w8
          have e2 := u32_xor (xor_lt w3 w8) w14
          have e3 := u32_xor (xor_lt (xor_lt w3 w8) w14) w16
          have kl := left_any (x3 ^^^ x8 ^^^ x14 ^^^ x16) 1 (xor_lt (xor_lt (xor_lt w3 w8) w14) w16) (.inl rfl)
          generalize x3 ^^^ x8 = y1 at e1 e2 e3 kl hnew
          generalize y1 ^^^ x14 = y2 at e2 e3 kl hnew
          generalize y2 ^^^ x16 = y3 at e3 kl hnew
          generalize rotl y3 1 = y4 at kl hnew
          have HN := Lib.hid hnew
          have KL := Lib.hid kl
          clear hnew h3 h8 h14 hw cat hlen kl htk
          go_wp2_with fail
          refine wp_region_quiet_tail 22 (C := fun w' => ∃ n, w' = wr.drewN n) ⟨1, rfl⟩ (by kernel_rfl) (by kernel_rfl) ?_
          simp only [List.take_succ_cons, List.take_zero, List.drop_succ_cons, List.drop_zero]
          repeat (go_big_quiet_step ((first | (with_reducible exact quietD ⟨_, rfl⟩ KL.out) | rfl)))
          refine wpQuiet_nil ?_
          intro w' hw'
          obtain ⟨n, rfl⟩ := hw'
          go_wp2
          go_roundw
          case rel => exact ⟨k + 1, t + 1, by simp, Lib.hid (by rw [HTK.out]; omega), by omega, by omega, by have := HTK.out; omega, Lib.hid (by rw [heap_setCell_same (wr.drewN n) (w.heap.size + 1) t _ _ _ R.out, wv_set, HN.out]), (Below.drewN hbw _).setCell (by simp) _⟩
          case measure => simp only [intOf]; omega
        · have hk64 : k = 64 := by have := HTK.out; omega
          have r := R.out
          rw [hk64] at r
          obtain ⟨ws, hws⟩ : ∃ ws, ws = wx 64 (w0 p) := ⟨_, rfl⟩
          rw [← hws] at r
          have hwl : ws.length = 80 := by rw [hws, wx_len, w0_len]
          have hww : AllW ws := by rw [hws]; exact wx_w (w0_w p) 64
          have R2 := Lib.hid r; have HWL := Lib.hid hwl; have HWW := Lib.hid hww; have HWS := Lib.hid hws
          have z80 : (Tryd.prog.info? 118).map (·.size) = some (wv ws).toArray.size := by rw [show (wv ws).toArray.size = 80 by simp [hwl]]; kernel_rfl
          have Z80 := Lib.hid z80
          have G := Lib.hid ((hbw.block _ hgl).trans HG.out)
          have hd : decide ((t : Int) < 80) = false := decide_eq_false (by omega)
          obtain ⟨t7, ht7⟩ : ∃ t7 : Int, t7 = (t : Int) := ⟨_, rfl⟩
          rw [← ht7] at hd ⊢
          clear r hwl hww hws z80 R hk64 ht7 HTK ht16 ht80 hk h80
          have gat : ∀ (j n : Nat), j < 5 → h.words.toL[j]? = some n → wr.cell? ⟨g, j, none⟩ = some (.int .u32 (n : Int)) := fun j n hj e => by
            rw [cell_of_row _ _ _ _ _ _ G.out]
            have hl : j < (wv h.words.toL).length := by simp [S5.toL]; omega
            simp only [hcells, List.getElem?_toArray, List.getElem?_append_left hl]
            simp [wv, e]
          have g0 := gat 0 _ (by omega) rfl
          have g1 := gat 1 _ (by omega) rfl
          have g2 := gat 2 _ (by omega) rfl
          have g3 := gat 3 _ (by omega) rfl
          have g4 := gat 4 _ (by omega) rfl
          clear gat
          go_wp2_with fail
          clear hd
          go_quiet (fail)
          obtain ⟨W1, hW1⟩ : ∃ W1, W1 = wr.drewN nq := ⟨_, rfl⟩
          have r2 : W1.heap[w.heap.size + 1]? = some (.cells (wv ws).toArray 118 (0, 0)) := by rw [hW1]; exact R2.out
          have b1 : Below w.heap.size w W1 := by rw [hW1]; exact Below.drewN hbw _
          have gg : W1.heap[g]? = some (.cells (hcells h).toArray 107 (0, 0)) := by rw [hW1]; exact G.out
          rw [← hW1]
          have G1 := Lib.hid gg
          clear hW1 R2 hbw g0 g1 g2 g3 g4 G gg
          obtain ⟨s0, hs0⟩ : ∃ s0, s0 = h.words := ⟨_, rfl⟩
          have ok0 : s0.Ok := by rw [hs0]; exact ok.words
          rw [show h.words.a = s0.a by rw [hs0], show h.words.b = s0.b by rw [hs0], show h.words.c = s0.c by rw [hs0], show h.words.d = s0.d by rw [hs0], show h.words.e = s0.e by rw [hs0]]
          have HS0 := Lib.hid hs0; have OK0 := Lib.hid ok0
          clear hs0 ok0
          go_wp2_with (refine wpList_load_row rfl 118 (.tmp 4) rfl (w.heap.size + 1) rfl 118 (wv ws).toArray (0, 0) _ r2 Tryd.underlying118 rfl Z80.out ?_)
          clear r2
          go_loopw [8, 9, 10, 11, 12, 88] (fun t8 t9 t10 t11 t12 t88 wq => ∃ (t : Nat) (s : S5), t88 = .int .i64 (t : Int) ∧ t ≤ 80 ∧ Hid (s = rnds ws t s0) ∧ t8 = .int .u32 (s.a : Int) ∧ t9 = .int .u32 (s.b : Int) ∧ t10 = .int .u32 (s.c : Int) ∧ t11 = .int .u32 (s.d : Int) ∧ t12 = .int .u32 (s.e : Int) ∧ Below w.heap.size w wq) (fun _ _ _ _ _ t88 _ => (80 - intOf t88).toNat)
          case atStart => exact ⟨0, s0, rfl, by omega, Lib.hid rfl, rfl, rfl, rfl, rfl, rfl, b1⟩
          case round =>
            clear b1 G1
            obtain ⟨t, s, rfl, ht, HS, rfl, rfl, rfl, rfl, rfl, hbq⟩ := hrel
            by_cases h80 : t < 80
            · have oks : s.Ok := by rw [HS.out]; exact rnds_ok ws OK0.out t
              have hix := fun w => arr_idx 118 98 80 Tryd.underlying118 (by kernel_rfl) (fun w => by kernel_rfl) (wv ws) t h80 _ (wv_get ws t (by rw [HWL.out]; exact h80)) w
              have hxl := HWW.out t
              have hnew : rnds ws (t + 1) s0 = rnd t (ws.getD t 0) s := by rw [rnds, HS.out]
              generalize ws.getD t 0 = x at hix hxl hnew
              obtain ⟨oa, ob, oc, od, oe⟩ := oks
              have km := mix_any t s.b s.c s.d h80 ob oc od
              have k5 : ∀ w, Calls Tryd.prog 81 #[.int .u32 (s.a : Int), .int .i64 5] w fun e w' => e = .returned (.int .u32 (rotl s.a 5 : Nat)) ∧ ∃ m, w' = w.drewN m := left_any s.a 5 oa (.inr (.inl rfl))
              have k30 : ∀ w, Calls Tryd.prog 81 #[.int .u32 (s.b : Int), .int .i64 30] w fun e w' => e = .returned (.int .u32 (rotl s.b 30 : Nat)) ∧ ∃ m, w' = w.drewN m := left_any s.b 30 ob (.inr (.inr rfl))
              have fl := mixF_lt t ob oc od
              have r5 := rotl_lt (n := 5) oa
              have hkl := mixK_lt t
              have HN : Hid (rnds ws (t + 1) s0 = ⟨add4 (add4 (add4 (add4 (rotl s.a 5) (mixF t s.b s.c s.d)) s.e) (mixK t)) x, s.a, rotl s.b 30, s.c, s.d⟩) := Lib.hid hnew
              obtain ⟨sa, sb, sc, sd, se⟩ := s
              simp only at oa ob oc od oe km k5 k30 fl r5 HN ⊢
              generalize mixF t sb sc sd = mf at km fl HN
              generalize mixK t = mk at km hkl HN
              generalize rotl sa 5 = ra at k5 r5 HN
              generalize rotl sb 30 = rb at k30 HN
              have KM := Lib.hid km; have K5 := Lib.hid k5; have K30 := Lib.hid k30
              clear hnew km k5 k30 HS
              go_wp2_with (first
                | (go_at_call 82; (with_reducible refine (KM.out _).mono ?_); rintro e w1 ⟨rfl, rfl⟩)
                | (go_at_call 81; (with_reducible refine (K5.out _).mono ?_); rintro e w2 ⟨rfl, n2, rfl⟩)
                | (go_at_call 81; (with_reducible refine (K30.out _).mono ?_); rintro e w3 ⟨rfl, n3, rfl⟩))
              go_roundw
              case rel => exact ⟨t + 1, _, by simp, by omega, Lib.hid rfl, by rw [HN.out]; exact int_eq (by simp only [add4]; omega), by rw [HN.out], by rw [HN.out], by rw [HN.out], by rw [HN.out], Below.drewN hbq _⟩
              case measure => simp only [intOf]; omega
            · have ht80 : t = 80 := by omega
              have hss := HS.out
              rw [ht80] at hss
              have HSS := Lib.hid hss
              have oks : s.Ok := by rw [hss]; exact rnds_ok ws OK0.out 80
              have hd : decide ((t : Int) < 80) = false := decide_eq_false (by omega)
              obtain ⟨t8, ht8⟩ : ∃ t8 : Int, t8 = (t : Int) := ⟨_, rfl⟩
              rw [← ht8] at hd ⊢
              have G2 : Hid (wr.heap[g]? = some (.cells (hcellsN 0 h s).toArray 107 (0, 0))) := Lib.hid ((hbq.block _ hgl).trans HG.out)
              have K2 : Kp (fun k => k = g) w wr := ⟨hbq.os, hbq.tape, hbq.output, hbq.size, fun k hk _ => hbq.block k hk⟩
              have hgr : g < wr.heap.size := Nat.lt_of_lt_of_le hgl hbq.size
              clear HS ht80 hss ht8 ht h80 hbq
              go_wp2_with fail
              clear hd
              rw [show (#[.int .u32 (s.a : Int), .int .u32 (s.b : Int), .int .u32 (s.c : Int), .int .u32 (s.d : Int), .int .u32 (s.e : Int)] : Array Value) = (wv s.toL).toArray from rfl]
              go_loopw [122] (fun t122 wq => ∃ i : Nat, t122 = .int .i64 (i : Int) ∧ i ≤ 5 ∧ Hid (wq.heap[g]? = some (.cells (hcellsN i h s).toArray 107 (0, 0))) ∧ Kp (fun k => k = g) w wq) (fun t122 _ => (5 - intOf t122).toNat)
              case atStart => exact ⟨0, rfl, by omega, G2, K2⟩
              case round =>
                clear G2 K2
                obtain ⟨i, rfl, hi, GG, hkp⟩ := hrel
                by_cases h5 : i < 5
                · have hix := fun w => arr_idx 99 98 5 Tryd.underlying99 (by kernel_rfl) (fun w => by kernel_rfl) (wv s.toL) i h5 _ (wv_get s.toL i (by simpa [S5.toL] using h5)) w
                  have hcell : wr.cell? ⟨g, i, none⟩ = some (.int .u32 ((h.words.toL.getD i 0 : Nat) : Int)) := by
                    rw [cell_of_row _ _ _ _ _ _ GG.out]
                    exact hcellsN_at h s i h5
                  have hfz : wr.frozen? ⟨g, i, none⟩ = false := frozen_of_row _ _ _ _ _ GG.out
                  have hset := hcellsN_set h s i h5
                  have hx := toL_lt ok.words i
                  have hy := toL_lt oks i
                  generalize h.words.toL.getD i 0 = x at hcell hset hx
                  generalize s.toL.getD i 0 = y at hix hset hy
                  obtain ⟨z, hz⟩ : ∃ z : Nat, z = add4 x y := ⟨_, rfl⟩
                  have hadd : ((x : Int) + (y : Int)) % 4294967296 = (z : Int) := by rw [hz]; unfold add4; omega
                  rw [← hz] at hset
                  have HSET := Lib.hid hset
                  clear hset hz
                  go_wp2_with fail
                  refine wp_region_still_tail 11 (by kernel_rfl) (by kernel_rfl) ?_
                  simp only [List.take_succ_cons, List.take_zero, List.drop_succ_cons, List.drop_zero]
                  repeat still_step
                  refine wpStill_nil ?_
                  change wpList _ _ _ _ _ wr.drew
                  go_wp2
                  go_roundw
                  case rel => exact ⟨i + 1, by simp, by omega, Lib.hid ((heap_setCell_same wr g i _ _ _ GG.out).trans (by rw [HSET.out])), Kp.drew (hkp.setCell (.inl rfl) _)⟩
                  case measure => simp only [intOf]; omega
                · have hi5 : i = 5 := by omega
                  have gg := GG.out
                  rw [hi5] at gg
                  have hfin : hcellsN 5 h s = hcells ⟨blk h.words p, h.rest, h.n⟩ := by
                    rw [hcellsN_five, HSS.out, HS0.out, HWS.out]; rfl
                  rw [hfin] at gg
                  have GF := Lib.hid gg
                  have hd : decide ((i : Int) < 5) = false := decide_eq_false (by omega)
                  clear hi5 gg hfin GG
                  go_wp2
                  go_end0
                  exact ⟨rfl, GF.out, hkp⟩
end Go.Proofs.YtmfhlhjnfaiegaaDoor
