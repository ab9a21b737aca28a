/- The reference's SHA-1: a block turns the words by the function of ShaP. Condition: a block has sixty-four bytes. -/
import Derived.Test.YtmfhlhjnfaiegaaDoorShR
namespace Go.Proofs.YtmfhlhjnfaiegaaDoor
open Go.RowKit
set_option maxRecDepth 100000
set_option maxHeartbeats 4000000
set_option linter.unusedVariables false
/-- the first words of a block -/
def wr0 (p : List UInt8) (i : Nat) : List Nat := (List.range 80).map fun t => if t < i then be4 p (4 * t) else 0
theorem wr0_len (p : List UInt8) (i : Nat) : (wr0 p i).length = 80 := by simp [wr0]
theorem wr0_get (p : List UInt8) (i j : Nat) (h : j < 80) : (wr0 p i).getD j 0 = if j < i then be4 p (4 * j) else 0 := by
  unfold wr0
  rw [List.getD_eq_getElem?_getD, List.getElem?_map, List.getElem?_range h]; rfl
theorem wr0_set (p : List UInt8) (i : Nat) (h : i < 80) : (wr0 p i).set i (be4 p (4 * i)) = wr0 p (i + 1) := by
  refine ext_getD (by simp [wr0]) fun j hj => ?_
  have hj8 : j < 80 := by simpa [wr0] using hj
  rw [getD_set, wr0_get _ _ _ hj8, wr0_get _ _ _ hj8, wr0_len]
  by_cases e : i = j
  · subst e; rw [if_pos ⟨rfl, h⟩, if_pos (by omega)]
  · rw [if_neg (fun q => e q.1)]
    by_cases g : j < i
    · rw [if_pos g, if_pos (by omega)]
    · rw [if_neg g, if_neg (by omega)]
theorem be4_drop (p : List UInt8) (k : Nat) : be4 (p.drop k) 0 = be4 p k := by
  unfold be4 byteN
  simp only [List.getD_eq_getElem?_getD, List.getElem?_drop, Nat.add_zero, Nat.zero_add]
theorem slice_fromB (A : Option Addr) (n c k : Nat) (h : k ≤ n) (w : World) :
    (Instr.slice 23 (.slice A n c) (some (.int .i64 k)) none none).run Tryd.prog w = .ok (.slice (cutA A c k 1) (n - k) (c - k)) w := by
  have hs : (sizeOf (Tryd.prog.elem 23)).run Tryd.prog w = .ok 1 w := by kernel_rfl
  rw [run_slice_l (P := Tryd.prog) (t := 23) (a := A) (len := n) (cap := c) (ht := Tryd.underlying23) (kl := .i64) (l := (k : Int)) (h0 := by omega) (h1 := by omega), hs]
  simp [Result.andThen, sliced, cutA]
theorem toL_get (s : S5) (i : Nat) (hi : i < 5) : (wv s.toL).toArray[i]? = some (.int .u32 ((s.toL.getD i 0 : Nat) : Int)) := wv_at _ _ (by simpa [S5.toL] using hi)
theorem plusN_at (h s : S5) (i : Nat) (hi : i < 5) : (wv (plusN i h s)).toArray[i]? = some (.int .u32 ((h.toL.getD i 0 : Nat) : Int)) := by
  match i, hi with
  | 0, _ => rfl
  | 1, _ => rfl
  | 2, _ => rfl
  | 3, _ => rfl
  | 4, _ => rfl
theorem plusN_set (h s : S5) (i : Nat) (hi : i < 5) : (wv (plusN i h s)).toArray.setIfInBounds i (.int .u32 ((add4 (h.toL.getD i 0) (s.toL.getD i 0) : Nat) : Int)) = (wv (plusN (i + 1) h s)).toArray := by
  apply Array.ext'
  match i, hi with
  | 0, _ => rfl
  | 1, _ => rfl
  | 2, _ => rfl
  | 3, _ => rfl
  | 4, _ => rfl
theorem add4_four (ra mf se mk x : Nat) : (((ra : Int) + (mf : Int) + (se : Int) + (mk : Int) + (x : Int)) % 4294967296) = ((add4 (add4 (add4 (add4 ra mf) se) mk) x : Nat) : Int) := by
  simp only [add4, Nat.mod_add_mod]
  omega
theorem info5w (s : S5) : (Tryd.prog.info? 99).map (·.size) = some (wv s.toL).toArray.size := by
  rw [show (wv s.toL).toArray.size = 5 from rfl]; kernel_rfl
theorem info32 : (Tryd.prog.info? 98).map (fun i => (i.zero, i.size, i.bytes)) = some (some (.int .u32 0), 1, 4) := by kernel_rfl
theorem made80 : madeCells (Value.int .u32 0).cells 80 = (wv (List.replicate 80 0)).toArray := by kernel_rfl
theorem mk80 (w : World) : (Instr.makeSlice 110 (.int .i64 80) (.int .i64 80)).run Tryd.prog w = .ok (.slice (some ⟨w.heap.size, 0, none⟩) 80 80) (w.alloc (.cells (wv (List.replicate 80 0)).toArray 98)) := by
  obtain ⟨i, hi, hz, hs, hb⟩ := info_parts info32
  have := run_makeSlice (P := Tryd.prog) (w := w) 110 98 i (.int .u32 0) Tryd.underlying110 hi hz .i64 .i64 80 80 (by omega) (by omega) (by rw [hs]; decide) (by rw [hb]; decide) (by omega)
  rw [hs] at this
  exact this.trans (by rw [show (80 : Int).toNat * 1 = 80 from rfl, made80]; rfl)
theorem wr0_zero (p : List UInt8) : wr0 p 0 = List.replicate 80 0 := by
  refine ext_getD (by simp [wr0]) fun j hj => ?_
  have hj8 : j < 80 := by simpa [wr0] using hj
  rw [wr0_get _ _ _ hj8, if_neg (by omega), List.getD_eq_getElem?_getD, List.getElem?_replicate, if_pos hj8]; rfl
theorem blockR_any (h : S5) (ok : h.Ok) (p : List UInt8) (hp : p.length = 64) (A : Option Addr) (c : Nat) (w : World) (hA : Bs w A p) (hc : 64 ≤ c) :
    Calls Tryd.prog 56 #[.agg (wv h.toL).toArray, .slice A 64 c] w fun e w' => e = .returned (.agg (wv (blk h p).toL).toArray) ∧ Below w.heap.size w w' := by
  obtain ⟨B, hB⟩ : ∃ B, B = w.heap.size := ⟨_, rfl⟩
  obtain ⟨W0, hW0⟩ : ∃ W0, W0 = (w.alloc (.cells (wv h.toL).toArray 99)).alloc (.cells (#[.int .u32 0, .int .u32 0, .int .u32 0, .int .u32 0, .int .u32 0] : Array Value) 99) := ⟨_, rfl⟩
  have hz5 : (#[.int .u32 0, .int .u32 0, .int .u32 0, .int .u32 0, .int .u32 0] : Array Value) = (wv [0, 0, 0, 0, 0]).toArray := rfl
  have hb0 : Below B w W0 := by rw [hW0, hB]; exact ((Below.refl _ _).alloc (Nat.le_refl _) _).alloc (by simp) _
  have r0 : W0.heap[B]? = some (.cells (wv h.toL).toArray 99 (0, 0)) := by
    rw [hW0, hB]
    exact (((Below.refl _ _).alloc (Nat.le_refl _) _ : Below (w.alloc (.cells (wv h.toL).toArray 99)).heap.size _ _).block _ (by simp)).trans (heap_alloc_new _ _)
  have r1 : W0.heap[B + 1]? = some (.cells (wv [0, 0, 0, 0, 0]).toArray 99 (0, 0)) := by
    rw [hW0, ← hz5, hB]
    have := heap_alloc_new (w.alloc (.cells (wv h.toL).toArray 99)) (.cells (#[.int .u32 0, .int .u32 0, .int .u32 0, .int .u32 0, .int .u32 0] : Array Value) 99)
    rwa [show (w.alloc (.cells (wv h.toL).toArray 99)).heap.size = w.heap.size + 1 by simp] at this
  have hs0 : W0.heap.size = B + 2 := by rw [hW0, hB]; simp
  have HW0 := Lib.hid hW0; have HB := Lib.hid hB; have HB0 := Lib.hid hb0; have R0 := Lib.hid r0; have R1 := Lib.hid r1; have HS0 := Lib.hid hs0; have HP := Lib.hid hp; have HA := Lib.hid hA
  clear hW0 hB hb0 r0 r1 hs0 hp hA hz5
  go_enter Tryd.func56, Tryd.ntmps56
  go_upto_region 1 with fail
  rw [← HW0.out]
  simp only [← HB.out]
  obtain ⟨W1, hW1⟩ : ∃ W1, W1 = W0.alloc (.cells (wv (List.replicate 80 0)).toArray 98) := ⟨_, rfl⟩
  have hms := mk80 W0
  rw [HS0.out, ← hW1] at hms
  have b1 : Below B w W1 := by rw [hW1]; exact HB0.out.alloc (by have := HB0.out.size; have := HB.out; omega) _
  have q0 : W1.heap[B]? = some (.cells (wv h.toL).toArray 99 (0, 0)) := by rw [hW1, Below.heap_alloc _ _ _ (by have := HS0.out; omega)]; exact R0.out
  have q1 : W1.heap[B + 1]? = some (.cells (wv [0, 0, 0, 0, 0]).toArray 99 (0, 0)) := by rw [hW1, Below.heap_alloc _ _ _ (by have := HS0.out; omega)]; exact R1.out
  have q2 : W1.heap[B + 2]? = some (.cells (wv (wr0 p 0)).toArray 98 (0, 0)) := by
    rw [hW1, wr0_zero]
    have := heap_alloc_new W0 (.cells (wv (List.replicate 80 0)).toArray 98)
    rwa [HS0.out] at this
  have B1 := Lib.hid b1; have Q0 := Lib.hid q0; have Q1 := Lib.hid q1; have Q2 := Lib.hid q2
  clear hW1 b1 q0 q1 q2
  go_wp2_with fail
  go_loopw [6] (fun t6 wr => ∃ i : Nat, t6 = .int .i64 (i : Int) ∧ i ≤ 16 ∧ Hid (wr.heap[B + 2]? = some (.cells (wv (wr0 p i)).toArray 98 (0, 0))) ∧ Hid (Kp (fun k => k = B + 2) W1 wr)) (fun t6 _ => (16 - intOf t6).toNat)
  case atStart => exact ⟨0, rfl, by omega, Q2, Lib.hid (Kp.refl _ _)⟩
  case round =>
    obtain ⟨i, rfl, hi, R, K⟩ := hrel
    have bw : Below B w wr := B1.out.trans (K.out.toBelow (by have := B1.out.size; rw [HB.out]; exact this) (fun k hk e => by have := B1.out.size; have := HB.out; omega))
    have BW := Lib.hid bw
    clear bw
    by_cases h16 : i < 16
    · have hsl : ∀ w, (Instr.slice 23 (.slice A 64 c) (some (.int .i64 (4 * (i : Int)))) none none).run Tryd.prog w = .ok (.slice (cutA A c (4 * i) 1) (64 - 4 * i) (c - 4 * i)) w := fun w => by
        have := slice_fromB A 64 c (4 * i) (by omega) w
        rwa [Int.natCast_mul] at this
      have kw := wordR_any (p.drop (4 * i)) (by rw [List.length_drop, HP.out]; omega) (cutA A c (4 * i) 1) (c - 4 * i) wr (Bs.cut (Sl.below HA.out (by have := BW.out; rwa [HB.out] at this)) (4 * i) c (by rw [HP.out]; exact hc))
      rw [List.length_drop, HP.out, be4_drop] at kw
      have hcell : wr.cell? ⟨B + 2, i, none⟩ = some (.int .u32 (((wr0 p i).getD i 0 : Nat) : Int)) := by
        rw [cell_of_row _ _ _ _ _ _ R.out]
        exact wv_at _ i (by rw [wr0_len]; omega)
      have hfz : wr.frozen? ⟨B + 2, i, none⟩ = false := frozen_of_row _ _ _ _ _ R.out
      have hset := wr0_set p i (by omega)
      generalize be4 p (4 * i) = x at kw hset
      generalize (wr0 p i).getD i 0 = y at hcell
      have HSET := Lib.hid hset; have KW := Lib.hid kw
      clear hset kw
      go_wp2_with (go_at_call 70; (with_reducible refine KW.out.mono ?_); rintro e w2 ⟨rfl, n2, rfl⟩)
      go_roundw
      case rel => exact ⟨i + 1, by simp, by omega, Lib.hid (by rw [heap_setCell_same (wr.drewN n2) (B + 2) i _ _ _ R.out, wv_set, HSET.out]), Lib.hid ((K.out.drewN _).setCell (.inl rfl) _)⟩
      case measure => simp only [intOf]; omega
    · have hi16 : i = 16 := by omega
      have r := R.out
      rw [hi16] at r
      have R1' : Hid (wr.heap[B + 2]? = some (.cells (wv (wx 0 (w0 p))).toArray 98 (0, 0))) := Lib.hid r
      have hd : decide ((i : Int) < 16) = false := decide_eq_false (by omega)
      obtain ⟨i5, hi5⟩ : ∃ i5 : Int, i5 = (i : Int) := ⟨_, rfl⟩
      rw [← hi5] at hd ⊢
      clear r R hi5 hi16 h16 hi
      go_wp2_with fail
      clear hd
      go_loopw [7] (fun t7 wq => ∃ k t : Nat, t7 = .int .i64 (t : Int) ∧ Hid (t = 16 + k) ∧ 16 ≤ t ∧ t ≤ 80 ∧ k ≤ 64 ∧ Hid (wq.heap[B + 2]? = some (.cells (wv (wx k (w0 p))).toArray 98 (0, 0))) ∧ Hid (Kp (fun k => k = B + 2) W1 wq)) (fun t7 _ => (80 - intOf t7).toNat)
      case atStart => exact ⟨0, 16, rfl, Lib.hid rfl, by omega, by omega, by omega, R1', K⟩
      case round =>
        clear R1' K BW
        obtain ⟨k, t, rfl, HTK, ht16, ht80, hk, R, K⟩ := hrel
        by_cases h80 : t < 80
        · have htk := HTK.out
          have hlen : (wx k (w0 p)).length = 80 := by rw [wx_len, w0_len]
          have hw := wx_w (w0_w p) k
          have hfz : wr.frozen? ⟨B + 2, t, none⟩ = false := frozen_of_row _ _ _ _ _ R.out
          obtain ⟨a3, h3⟩ : ∃ a, a = 13 + k := ⟨_, rfl⟩
          obtain ⟨a8, h8⟩ : ∃ a, a = 8 + k := ⟨_, rfl⟩
          obtain ⟨a14, h14⟩ : ∃ a, a = 2 + k := ⟨_, rfl⟩
          have s3 : IntKind.i64.wrap ((t : Int) - 3) = (a3 : Int) := by rw [IntWalk.i64_in _ (by omega)]; omega
          have s8 : IntKind.i64.wrap ((t : Int) - 8) = (a8 : Int) := by rw [IntWalk.i64_in _ (by omega)]; omega
          have s14 : IntKind.i64.wrap ((t : Int) - 14) = (a14 : Int) := by rw [IntWalk.i64_in _ (by omega)]; omega
          have s16 : IntKind.i64.wrap ((t : Int) - 16) = (k : Int) := by rw [IntWalk.i64_in _ (by omega)]; omega
          have l3 : (a3 : Int) < 80 := by omega
          have l8 : (a8 : Int) < 80 := by omega
          have l14 : (a14 : Int) < 80 := by omega
          have l16 : (k : Int) < 80 := by omega
          have cat : ∀ a, a < 80 → wr.cell? ⟨B + 2, a, none⟩ = some (.int .u32 (((wx k (w0 p)).getD a 0 : Nat) : Int)) := fun a ha => by
            rw [cell_of_row _ _ _ _ _ _ R.out]
            exact wv_at _ a (by omega)
          have c3 := cat a3 (by omega); have c8 := cat a8 (by omega); have c14 := cat a14 (by omega); have c16 := cat k (by omega); have ct := cat t h80
          generalize (wx k (w0 p)).getD t 0 = xt at ct
          have w3 := hw a3; have w8 := hw a8; have w14 := hw a14; have w16 := hw k
          have hnew : wx (k + 1) (w0 p) = (wx k (w0 p)).set t (rotl ((wx k (w0 p)).getD a3 0 ^^^ (wx k (w0 p)).getD a8 0 ^^^ (wx k (w0 p)).getD a14 0 ^^^ (wx k (w0 p)).getD k 0) 1) := by
            rw [wx, h3, h8, h14, htk]
          generalize (wx k (w0 p)).getD a3 0 = x3 at c3 w3 hnew
          generalize (wx k (w0 p)).getD a8 0 = x8 at c8 w8 hnew
          generalize (wx k (w0 p)).getD a14 0 = x14 at c14 w14 hnew
          generalize (wx k (w0 p)).getD k 0 = x16 at c16 w16 hnew
          have e1 := u32_xor w3 w8
          have e2 := u32_xor (xor_lt w3 w8) w14
          have e3 := u32_xor (xor_lt (xor_lt w3 w8) w14) w16
          have kl : ∀ w, Calls Tryd.prog 71 #[.int .u32 ((x3 ^^^ x8 ^^^ x14 ^^^ x16 : Nat) : Int), .int .u64 1] w fun e w' => e = .returned (.int .u32 (rotl (x3 ^^^ x8 ^^^ x14 ^^^ x16) 1 : Nat)) ∧ ∃ m, w' = w.drewN m := fun w =>
            (leftR_any (x3 ^^^ x8 ^^^ x14 ^^^ x16) 1 (xor_lt (xor_lt (xor_lt w3 w8) w14) w16) (.inl rfl) w).mono fun _ _ ⟨h1, h2⟩ => ⟨h1, 0, h2.symm⟩
          generalize x3 ^^^ x8 = y1 at e1 e2 e3 kl hnew
          generalize y1 ^^^ x14 = y2 at e2 e3 kl hnew
          generalize y2 ^^^ x16 = y3 at e3 kl hnew
          generalize rotl y3 1 = y4 at kl hnew
          have HN := Lib.hid hnew
          have KL := Lib.hid kl
          clear hnew h3 h8 h14 hw cat hlen kl htk
          go_wp2_with fail
          refine wp_region_quiet_tail 27 (C := fun w' => ∃ n, w' = wr.drewN n) ⟨1, rfl⟩ (by kernel_rfl) (by kernel_rfl) ?_
          simp only [List.take_succ_cons, List.take_zero, List.drop_succ_cons, List.drop_zero]
          repeat (go_big_quiet_step ((first | (with_reducible exact quietD ⟨_, rfl⟩ KL.out) | rfl)))
          refine wpQuiet_nil ?_
          intro w' hw'
          obtain ⟨n, rfl⟩ := hw'
          go_wp2
          go_roundw
          case rel => exact ⟨k + 1, t + 1, by simp, Lib.hid (by rw [HTK.out]; omega), by omega, by omega, by have := HTK.out; omega, Lib.hid (by rw [heap_setCell_same (wr.drewN n) (B + 2) t _ _ _ R.out, wv_set, HN.out]), Lib.hid ((K.out.drewN _).setCell (.inl rfl) _)⟩
          case measure => simp only [intOf]; omega
        · have hk64 : k = 64 := by have := HTK.out; omega
          have r := R.out
          rw [hk64] at r
          obtain ⟨ws, hws⟩ : ∃ ws, ws = wx 64 (w0 p) := ⟨_, rfl⟩
          rw [← hws] at r
          have hwl : ws.length = 80 := by rw [hws, wx_len, w0_len]
          have hww : AllW ws := by rw [hws]; exact wx_w (w0_w p) 64
          have R2 := Lib.hid r; have HWL := Lib.hid hwl; have HWW := Lib.hid hww; have HWS := Lib.hid hws
          have G0 : Hid (wr.heap[B]? = some (.cells (wv h.toL).toArray 99 (0, 0))) := Lib.hid (kp_cell K.out Q0.out (by omega))
          have G1 : Hid (wr.heap[B + 1]? = some (.cells (wv [0, 0, 0, 0, 0]).toArray 99 (0, 0))) := Lib.hid (kp_cell K.out Q1.out (by omega))
          have bw : Below B w wr := B1.out.trans (K.out.toBelow (by have := B1.out.size; rw [HB.out]; exact this) (fun k hk e => by omega))
          have BW := Lib.hid bw
          have z5 := Lib.hid (info5w h)
          have hgb : B + 2 < wr.heap.size := (Array.getElem?_eq_some_iff.1 r).1
          obtain ⟨G, hG⟩ : ∃ G, G = wr.heap.size := ⟨_, rfl⟩
          obtain ⟨W3, hW3⟩ : ∃ W3, W3 = (wr.alloc (.cells (wv [0, 0, 0, 0, 0]).toArray 99)).setRow wr.heap.size (wv h.toL).toArray := ⟨_, rfl⟩
          obtain ⟨r3, b3⟩ := new_set wr 99 (wv [0, 0, 0, 0, 0]).toArray (wv h.toL).toArray
          rw [← hW3, ← hG] at r3 b3
          have P0 := Lib.hid ((b3.block B (by omega)).trans G0.out)
          have P1 := Lib.hid ((b3.block (B + 1) (by omega)).trans G1.out)
          have P2 := Lib.hid ((b3.block (B + 2) (by omega)).trans R2.out)
          have P3 := Lib.hid r3
          have BB : Hid (Below B w W3) := Lib.hid (bw.trans (b3.mono (by omega)))
          have HGG := Lib.hid (show B + 2 < G by omega)
          have HG := Lib.hid hG; have HW3 := Lib.hid hW3
          have hd : decide ((t : Int) < 80) = false := decide_eq_false (by omega)
          obtain ⟨t7, ht7⟩ : ∃ t7 : Int, t7 = (t : Int) := ⟨_, rfl⟩
          rw [← ht7] at hd ⊢
          clear r hwl hww hws R hk64 ht7 HTK ht16 ht80 hk h80 bw hgb hG hW3 r3 b3
          go_upto_region 11 with (first
            | (refine wpList_load_row rfl 99 (.tmp 2) rfl B rfl 99 (wv h.toL).toArray (0, 0) _ G0.out Tryd.underlying99 rfl z5.out ?_)
            | (refine wpList_store_row rfl 99 (.tmp 8) (.tmp 58) rfl wr.heap.size (wv h.toL).toArray rfl rfl 99 _ (heap_alloc_new _ _) z5.out rfl (wv_one _) ?_))
          simp only [Act.put]
          rw [show (#[.int .u32 0, .int .u32 0, .int .u32 0, .int .u32 0, .int .u32 0] : Array Value) = (wv [0, 0, 0, 0, 0]).toArray from rfl, ← HW3.out]
          simp only [← HG.out]
          clear R2 G0 G1 z5 BW hd HW3 HG K
          go_wp2_with fail
          go_loopw [9] (fun t9 wq => ∃ (t : Nat) (s : S5), t9 = .int .i64 (t : Int) ∧ t ≤ 80 ∧ Hid (s = rnds ws t h) ∧ Hid (wq.heap[G]? = some (.cells (wv s.toL).toArray 99 (0, 0))) ∧ Hid (Kp (fun k => k = G) W3 wq)) (fun t9 _ => (80 - intOf t9).toNat)
          case atStart => exact ⟨0, h, rfl, by omega, Lib.hid rfl, P3, Lib.hid (Kp.refl _ _)⟩
          case round =>
            obtain ⟨t, s, rfl, ht, HS, R, K⟩ := hrel
            by_cases h80 : t < 80
            · have oks : s.Ok := by rw [HS.out]; exact rnds_ok ws ok t
              have hr2 := kp_cell K.out P2.out (by have := HGG.out; omega)
              have hcell : wr.cell? ⟨B + 2, t, none⟩ = some (.int .u32 ((ws.getD t 0 : Nat) : Int)) := by
                rw [cell_of_row _ _ _ _ _ _ hr2]
                exact wv_at _ t (by rw [HWL.out]; exact h80)
              have hxl := HWW.out t
              have hnew : rnds ws (t + 1) h = rnd t (ws.getD t 0) s := by rw [rnds, HS.out]
              generalize ws.getD t 0 = x at hcell hxl hnew
              obtain ⟨oa, ob, oc, od, oe⟩ := oks
              have hgat : ∀ (j n : Nat), j < 5 → s.toL[j]? = some n → wr.cell? ⟨G, j, none⟩ = some (.int .u32 (n : Int)) := fun j n hj e => by
                rw [cell_of_row _ _ _ _ _ _ R.out]
                simp [wv, e]
              have g0 := hgat 0 _ (by omega) rfl
              have g1 := hgat 1 _ (by omega) rfl
              have g2 := hgat 2 _ (by omega) rfl
              have g3 := hgat 3 _ (by omega) rfl
              have g4 := hgat 4 _ (by omega) rfl
              have hfz : ∀ j, wr.frozen? ⟨G, j, none⟩ = false := fun j => frozen_of_row _ _ _ _ _ R.out
              have k5 : ∀ w, Calls Tryd.prog 71 #[.int .u32 (s.a : Int), .int .u64 5] w fun e w' => e = .returned (.int .u32 (rotl s.a 5 : Nat)) ∧ ∃ m, w' = w.drewN m := fun w => (leftR_any s.a 5 oa (.inr (.inl rfl)) w).mono fun _ _ ⟨h1, h2⟩ => ⟨h1, 0, h2.symm⟩
              have k30 : ∀ w, Calls Tryd.prog 71 #[.int .u32 (s.b : Int), .int .u64 30] w fun e w' => e = .returned (.int .u32 (rotl s.b 30 : Nat)) ∧ w = w' := leftR_any s.b 30 ob (.inr (.inr rfl))
              have fl := mixF_lt t ob oc od
              have r5 := rotl_lt (n := 5) oa
              have hkl := mixK_lt t
              have HN : Hid (rnds ws (t + 1) h = ⟨add4 (add4 (add4 (add4 (rotl s.a 5) (mixF t s.b s.c s.d)) s.e) (mixK t)) x, s.a, rotl s.b 30, s.c, s.d⟩) := Lib.hid hnew
              clear hnew hr2 hgat
              obtain ⟨sa, sb, sc, sd, se⟩ := s
              simp only at oa ob oc od oe k5 k30 fl r5 HN g0 g1 g2 g3 g4 ⊢
              have e1 := u32_and ob oc
              have e2 := u32_not ob
              have e3 := u32_and (not4_lt sb) od
              have e4 := u32_or (and_lt (b := sc) ob) (and_lt (b := sd) (not4_lt sb))
              have x1 := u32_xor ob oc
              have x2 := u32_xor (xor_lt ob oc) od
              have m1 := u32_and ob od
              have m2 := u32_or (and_lt (b := sc) ob) (and_lt (b := sd) ob)
              have m3 := u32_and oc od
              have m4 := u32_or (or_lt (and_lt (b := sc) ob) (and_lt (b := sd) ob)) (and_lt (b := sd) oc)
              have K5 := Lib.hid k5; have K30 := Lib.hid k30; have FL := Lib.hid fl; have R5 := Lib.hid r5; have HKL := Lib.hid hkl; have HX := Lib.hid hxl; have OE := Lib.hid oe
              clear k5 k30 fl r5 hkl hxl oe
              go_upto_block 6 with (fail)
              go_cut [10, 11] from 59 to 146 (fun t10 t11 wx => t10 = .int .u32 (mixF t sb sc sd : Nat) ∧ t11 = .int .u32 (mixK t : Nat) ∧ wx = wr)
              case first =>
                have q : t / 20 = 0 ∨ t / 20 = 1 ∨ t / 20 = 2 ∨ t / 20 = 3 := by omega
                rcases q with q | q | q | q
                · have HF := Lib.hid (show mixF t sb sc sd = (sb &&& sc) ||| (not4 sb &&& sd) by unfold mixF; rw [if_pos q])
                  have HK := Lib.hid (show mixK t = 1518500249 by unfold mixK; rw [if_pos q])
                  have qi : t < 20 := by omega
                  clear q x1 x2 m1 m2 m3 m4
                  go_wp2_with fail
                  go_meet
                  case rel => exact ⟨by rw [HF.out], by rw [HK.out]; rfl, rfl⟩
                · have HF := Lib.hid (show mixF t sb sc sd = sb ^^^ sc ^^^ sd by unfold mixF; rw [if_neg (by omega), if_pos q])
                  have HK := Lib.hid (show mixK t = 1859775393 by unfold mixK; rw [if_neg (by omega), if_pos q])
                  have qi : t < 40 := by omega
                  have qj : 20 ≤ t := by omega
                  clear q e1 e2 e3 e4 m1 m2 m3 m4
                  go_wp2_with fail
                  go_meet
                  case rel => exact ⟨by rw [HF.out], by rw [HK.out]; rfl, rfl⟩
                · have HF := Lib.hid (show mixF t sb sc sd = (sb &&& sc) ||| (sb &&& sd) ||| (sc &&& sd) by unfold mixF; rw [if_neg (by omega), if_neg (by omega), if_pos q])
                  have HK := Lib.hid (show mixK t = 2400959708 by unfold mixK; rw [if_neg (by omega), if_neg (by omega), if_pos q])
                  have qi : t < 60 := by omega
                  have qj : 40 ≤ t := by omega
                  clear q e2 e3 e4 x1 x2
                  go_wp2_with fail
                  go_meet
                  case rel => exact ⟨by rw [HF.out], by rw [HK.out]; rfl, rfl⟩
                · have HF := Lib.hid (show mixF t sb sc sd = sb ^^^ sc ^^^ sd by unfold mixF; rw [if_neg (by omega), if_neg (by omega), if_neg (by omega)])
                  have HK := Lib.hid (show mixK t = 3395469782 by unfold mixK; rw [if_neg (by omega), if_neg (by omega), if_neg (by omega)])
                  have qi : 60 ≤ t := by omega
                  clear q e1 e2 e3 e4 m1 m2 m3 m4
                  go_wp2_with fail
                  go_meet
                  case rel => exact ⟨by rw [HF.out], by rw [HK.out]; rfl, rfl⟩
              case rest =>
              obtain ⟨rfl, rfl, rfl⟩ := hcut
              clear e1 e2 e3 e4 x1 x2 m1 m2 m3 m4
              have fl := FL.out; have r5 := R5.out; have hkl := HKL.out; have hxl := HX.out; have oe := OE.out
              generalize mixF t sb sc sd = mf at *
              generalize mixK t = mk at *
              generalize rotl sa 5 = ra at *
              generalize rotl sb 30 = rb at *
              go_upto_region 27 with fail
              refine wp_region_quietC (C := fun w' => ∃ n, w' = wc.drewN n) ⟨1, rfl⟩ (by kernel_rfl) (by kernel_rfl) ?_
              repeat (go_big_quiet_step ((first | (with_reducible exact quietD ⟨_, rfl⟩ K5.out) | rfl)))
              refine wpQuiet_nil ?_
              rintro w' ⟨n, rfl⟩
              go_wp2_with (go_at_call 71; (with_reducible refine (K30.out _).mono ?_); rintro e w2 ⟨rfl, rfl⟩)
              go_roundw
              case rel =>
                refine ⟨t + 1, _, by simp, by omega, Lib.hid rfl, Lib.hid ?_, Lib.hid ((((((K.out.drewN _).setCell (.inl rfl) _).setCell (.inl rfl) _).setCell (.inl rfl) _).setCell (.inl rfl) _).setCell (.inl rfl) _)⟩
                have hh := heap_setCell_same _ G 0 _ _ (.int .u32 (((ra : Int) + (mf : Int) + (se : Int) + (mk : Int) + (x : Int)) % 4294967296)) (heap_setCell_same _ G 1 _ _ (.int .u32 (sa : Int)) (heap_setCell_same _ G 2 _ _ (.int .u32 (rb : Int)) (heap_setCell_same _ G 3 _ _ (.int .u32 (sc : Int)) (heap_setCell_same (wc.drewN n) G 4 _ _ (.int .u32 (sd : Int)) R.out))))
                rw [HN.out]
                refine hh.trans ?_
                congr 2
                simp only [S5.toL, wv, List.map_cons, List.map_nil, List.setIfInBounds_toArray, List.set_cons_succ, List.set_cons_zero]
                rw [add4_four]
              case measure => simp only [intOf]; omega
            · have ht80 : t = 80 := by omega
              have hss := HS.out
              rw [ht80] at hss
              have oks : s.Ok := by rw [hss]; exact rnds_ok ws ok 80
              have HSS := Lib.hid hss
              have V0 := Lib.hid (kp_cell K.out P0.out (by have := HGG.out; omega))
              have V1 := Lib.hid (kp_cell K.out P1.out (by have := HGG.out; omega))
              have V3 := R
              have bw : Below B w wr := BB.out.trans (K.out.toBelow (by have := BB.out.size; rw [HB.out]; exact this) (fun k hk e => by have := HGG.out; omega))
              have BW := Lib.hid bw
              have hd : decide ((t : Int) < 80) = false := decide_eq_false (by omega)
              obtain ⟨t9, ht9⟩ : ∃ t9 : Int, t9 = (t : Int) := ⟨_, rfl⟩
              rw [← ht9] at hd ⊢
              clear bw ht9 ht80 hss HS K R ht h80
              go_wp2_with fail
              clear hd
              go_loopw [13] (fun t13 wq => ∃ i : Nat, t13 = .int .i64 (i : Int) ∧ i ≤ 5 ∧ Hid (wq.heap[B]? = some (.cells (wv (plusN i h s)).toArray 99 (0, 0))) ∧ Hid (Kp (fun k => k = B) wr wq)) (fun t13 _ => (5 - intOf t13).toNat)
              case atStart => exact ⟨0, rfl, by omega, V0, Lib.hid (Kp.refl _ _)⟩
              case round =>
                obtain ⟨i, rfl, hi, GG, KK⟩ := hrel
                by_cases h5 : i < 5
                · have hcell := plusN_at h s i h5
                  have v3 := kp_cell KK.out V3.out (by have := HGG.out; omega)
                  have hc0 : wr.cell? ⟨B, i, none⟩ = some (.int .u32 ((h.toL.getD i 0 : Nat) : Int)) := by rw [cell_of_row _ _ _ _ _ _ GG.out]; exact hcell
                  have hc1 : wr.cell? ⟨G, i, none⟩ = some (.int .u32 ((s.toL.getD i 0 : Nat) : Int)) := by rw [cell_of_row _ _ _ _ _ _ v3]; exact toL_get s i h5
                  have hfz : wr.frozen? ⟨B, i, none⟩ = false := frozen_of_row _ _ _ _ _ GG.out
                  have hset := plusN_set h s i h5
                  have hx := toL_lt ok i
                  have hy := toL_lt oks i
                  generalize h.toL.getD i 0 = x at hc0 hset hx
                  generalize s.toL.getD i 0 = y at hc1 hset hy
                  obtain ⟨z, hz⟩ : ∃ z : Nat, z = add4 x y := ⟨_, rfl⟩
                  have hadd : ((x : Int) + (y : Int)) % 4294967296 = (z : Int) := by rw [hz]; unfold add4; omega
                  rw [← hz] at hset
                  have HSET := Lib.hid hset
                  clear hset hz hcell v3
                  go_wp2_with fail
                  refine wp_region_still_tail 9 (by kernel_rfl) (by kernel_rfl) ?_
                  simp only [List.take_succ_cons, List.take_zero, List.drop_succ_cons, List.drop_zero]
                  repeat still_step
                  refine wpStill_nil ?_
                  change wpList _ _ _ _ _ wr.drew
                  go_wp2
                  go_roundw
                  case rel => exact ⟨i + 1, by simp, by omega, Lib.hid ((heap_setCell_same wr B i _ _ _ GG.out).trans (by rw [HSET.out])), Lib.hid (Kp.drew (KK.out.setCell (.inl rfl) _))⟩
                  case measure => simp only [intOf]; omega
                · have hi5 : i = 5 := by omega
                  have gg := GG.out
                  rw [hi5] at gg
                  have hfin : plusN 5 h s = (blk h p).toL := by
                    rw [HSS.out, HWS.out]; rfl
                  rw [hfin] at gg
                  have GF := Lib.hid gg
                  have v1 := Lib.hid (kp_cell KK.out V1.out (by omega))
                  have zb := Lib.hid (info5w (blk h p))
                  have bw : Below B w wr := BW.out.trans (KK.out.toBelow (by have := BW.out.size; rw [HB.out]; exact this) (fun k hk e => by omega))
                  have BF := Lib.hid bw
                  have hd : decide ((i : Int) < 5) = false := decide_eq_false (by omega)
                  clear hi5 gg hfin GG bw
                  go_wp2_with (first
                    | (refine wpList_load_row rfl 99 (.tmp 2) rfl B rfl 99 (wv (blk h p).toL).toArray (0, 0) _ GF.out Tryd.underlying99 rfl zb.out ?_)
                    | (refine wpList_store_row rfl 99 (.tmp 4) (.tmp 160) rfl (B + 1) (wv (blk h p).toL).toArray rfl rfl 99 _ v1.out zb.out (by simp [S5.toL]) (wv_one _) ?_))
                  refine bodyPost_ret (results_cell_row rfl _ _ (B + 1) 99 (wv (blk h p).toL).toArray (0, 0) _ rfl (setRow_heap _ _ _ _ _ _ v1.out) Tryd.underlying99 rfl zb.out) rfl ?_
                  exact ⟨rfl, by rw [HB.out]; exact below_setRow (by have := BF.out; rwa [HB.out] at this) _ (by omega) _⟩
end Go.Proofs.YtmfhlhjnfaiegaaDoor
