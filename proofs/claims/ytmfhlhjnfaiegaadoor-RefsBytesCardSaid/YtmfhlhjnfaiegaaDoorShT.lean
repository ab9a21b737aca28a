/- The reference's SHA-1: Sum is the function sha1 of ShaP. Condition: at most 2^40 bytes, nearly. -/
import Derived.Test.YtmfhlhjnfaiegaaDoorShS
import Derived.Test.YtmfhlhjnfaiegaaDoorBinA
import Derived.Test.YtmfhlhjnfaiegaaDoorOidD
namespace Go.Proofs.YtmfhlhjnfaiegaaDoor
open Go.RowKit
set_option maxRecDepth 100000
set_option maxHeartbeats 4000000
set_option linter.unusedVariables false
def lenOf : Value → Nat
  | .slice _ n _ => n
  | _ => 0
theorem slice_midB (A : Option Addr) (n c i j : Nat) (h : i ≤ j) (hj : j ≤ c) (w : World) :
    (Instr.slice 23 (.slice A n c) (some (.int .i64 i)) (some (.int .i64 j)) none).run Tryd.prog w = .ok (.slice (cutA A c i 1) (j - i) (c - i)) w := by
  have hs : (sizeOf (Tryd.prog.elem 23)).run Tryd.prog w = .ok 1 w := by kernel_rfl
  rw [run_slice_lh (P := Tryd.prog) (t := 23) (a := A) (len := n) (cap := c) (ht := Tryd.underlying23) (kl := .i64) (l := (i : Int)) (kh := .i64) (h := (j : Int)) (h0 := by omega) (h1 := by omega) (h2 := by omega), hs]
  simp [Result.andThen, sliced, cutA]
/-- the sum's bytes, so many written -/
def outRN (s : S5) (i : Nat) : List UInt8 := (outB s).take i ++ List.replicate (20 - i) 0
theorem outRN_len (s : S5) (i : Nat) (h : i ≤ 20) : (outRN s i).length = 20 := by simp [outRN, outB_len]; omega
theorem outB_at (s : S5) : ∀ i, i < 20 → (outB s)[i]? = some (UInt8.ofNat (s.toL.getD (i / 4) 0 / 2 ^ (24 - 8 * (i % 4)))) := by
  intro i hi
  have : i = 0 ∨ i = 1 ∨ i = 2 ∨ i = 3 ∨ i = 4 ∨ i = 5 ∨ i = 6 ∨ i = 7 ∨ i = 8 ∨ i = 9 ∨ i = 10 ∨ i = 11 ∨ i = 12 ∨ i = 13 ∨ i = 14 ∨ i = 15 ∨ i = 16 ∨ i = 17 ∨ i = 18 ∨ i = 19 := by omega
  rcases this with rfl | rfl | rfl | rfl | rfl | rfl | rfl | rfl | rfl | rfl | rfl | rfl | rfl | rfl | rfl | rfl | rfl | rfl | rfl | rfl <;> simp [outB, b4, S5.toL]
theorem outRN_set (s : S5) (i : Nat) (hi : i < 20) : (bvs (outRN s i)).toArray.setIfInBounds i (.int .u8 ((UInt8.ofNat (s.toL.getD (i / 4) 0 / 2 ^ (24 - 8 * (i % 4)))).toNat : Int)) = (bvs (outRN s (i + 1))).toArray := by
  have h := outB_at s i hi
  have hl : ((outB s).take i).length = i := by simp [outB_len]; omega
  apply Array.ext'
  rw [Array.toList_setIfInBounds]
  simp only [List.toList_toArray]
  unfold outRN
  rw [show 20 - i = (20 - (i + 1)) + 1 by omega, List.replicate_succ, List.take_add_one, h]
  unfold bvs
  rw [List.map_append, List.map_append, List.set_append_right _ _ (by rw [List.length_map, hl]; exact Nat.le_refl _), List.map_cons]
  simp only [List.length_map, hl, Nat.sub_self, List.set_cons_zero, Option.toList_some, List.map_append, List.map_cons, List.map_nil, List.append_assoc, List.cons_append, List.nil_append]
  rfl
theorem be8_take (v j : Nat) (h : j < 8) : (be8 v).take (j + 1) = (be8 v).take j ++ [UInt8.ofNat (v / 2 ^ (8 * (7 - j)))] := by
  have : j = 0 ∨ j = 1 ∨ j = 2 ∨ j = 3 ∨ j = 4 ∨ j = 5 ∨ j = 6 ∨ j = 7 := by omega
  rcases this with rfl | rfl | rfl | rfl | rfl | rfl | rfl | rfl <;> simp [be8]
theorem wpQuiet_slice2 {P : Program} {ops : Array Oper} {C : World → Prop} {rest : List Oper} {o : Oper} {Q : Act → Prop} {l : List Value} {df : List Deferred} (ty : TypeId) (x a b : Operand) (ho : o.op = .slice ty x (some a) (some b) none) (hT : P.underlying ty = some (.slice (P.elem ty))) (v : Value)
    (hr : ∀ w, (Instr.slice ty (Act.eval ⟨l.toArray, df⟩ x) (some (Act.eval ⟨l.toArray, df⟩ a)) (some (Act.eval ⟨l.toArray, df⟩ b)) none).run P w = .ok v w) (d : Nat) (hd : o.dst = some d) (hw : Region.wanted o (yielded ops l.toArray) = true)
    (h : wpQuiet P ops C Q rest ⟨(l.set d v).toArray, df⟩) : wpQuiet P ops C Q (o :: rest) ⟨l.toArray, df⟩ :=
  wpQuiet_pure d hd hw v (fun w => by
    unfold execOp
    simp only [ho, Option.map_some, Option.map_none, Sem.run_bind, run_sliceAt_slice (h := hT), hr w, Result.andThen_ok, Sem.run_pure]) h
theorem kp_setRow (w : World) (b : Nat) (c : Array Value) : Kp (fun k => k = b) w (w.setRow b c) := ⟨rfl, rfl, rfl, by simp, fun k _ hk => setRow_other w b k _ (fun e => hk (by omega))⟩
theorem sumR_any (b : List UInt8) (hb : b.length ≤ 1099511627000) (A : Option Addr) (c : Nat) (w : World) (hA : Bs w A b) :
    Calls Tryd.prog 40 #[.slice A b.length c] w fun e w' => e = .returned (idv (sha1 b)) ∧ Below w.heap.size w w' := by
  obtain ⟨B, hB⟩ : ∃ B, B = w.heap.size := ⟨_, rfl⟩
  obtain ⟨W0, hW0⟩ : ∃ W0, W0 = w.alloc (.cells (bvs zs20).toArray 40) := ⟨_, rfl⟩
  have hb0 : Below B w W0 := by rw [hW0, hB]; exact (Below.refl _ _).alloc (Nat.le_refl _) _
  have r0 : W0.heap[B]? = some (.cells (bvs zs20).toArray 40 (0, 0)) := by rw [hW0, hB]; exact heap_alloc_new _ _
  have hs0 : W0.heap.size = B + 1 := by rw [hW0, hB]; simp
  obtain ⟨n, hn⟩ : ∃ n, n = b.length := ⟨_, rfl⟩
  have hA0 := hA.below (by rw [hB] at hb0; exact hb0 : Below w.heap.size w W0)
  have HW0 := Lib.hid hW0; have HB := Lib.hid hB; have HB0 := Lib.hid hb0; have R0 := Lib.hid r0; have HS0 := Lib.hid hs0; have HN := Lib.hid hn; have HA0 := Lib.hid hA0
  rw [← hn] at hb ⊢
  clear hW0 hB hb0 r0 hs0 hn hA hA0
  go_enter Tryd.func40, Tryd.ntmps40
  go_upto_region 1 with fail
  simp only [zlit]
  rw [← HW0.out]
  simp only [← HB.out]
  go_wp2_with (first
    | (at_builtin
       refine appW34 rfl (.tmp 10) (.tmp 11) rfl (B + 1) _ [] rfl (WinB.empty (by have := HS0.out; omega)) A c b (by rw [← HN.out]; rfl) (HA0.out.below ((Below.refl _ _).alloc (Nat.le_refl _) _)) (by rw [← HN.out]; simp; omega) (by have := HS0.out; simp; omega) ?_
       intro v1 w1 hw1 hk1 _
       have b1 : Below (B + 1) W0 w1 := ((Below.refl _ _).alloc (by have := HS0.out; omega) _).trans (hk1.toBelow (by have := HS0.out; simp; omega) (fun k hk e => by injection e with e; have := HS0.out; exact absurd (show W0.heap.size = k from e) (by omega)))
       rw [List.nil_append] at hw1)
    | (at_builtin
       refine appW34 rfl (.tmp 13) (.tmp 14) rfl (B + 1) _ b rfl (hw1.below ((Below.refl _ _).alloc (Nat.le_refl _) _)) (some ⟨w1.heap.size, 0, none⟩) 1 [128] rfl (Sl.of_block (heap_alloc_new _ _) (one_byte rfl)) (by rw [← HN.out]; simp; omega) (Nat.le_trans (by have := HS0.out; have := b1.size; omega) (show w1.heap.size ≤ _ by simp)) ?_
       intro v2 w2 hw2 hk2 _
       have b2 : Below (B + 1) W0 w2 := (b1.alloc (by have := HS0.out; have := b1.size; omega) _).trans (hk2.toBelow (by have := HS0.out; have := b1.size; simp; omega) (fun k hk e => absurd (hw1.block k e).1 (by omega)))))
  go_loopw [3] (fun t3 wr => ∃ z : Nat, z ≤ zpad n ∧ WinB wr (B + 1) 5 t3 (b ++ 128 :: List.replicate z 0) ∧ Below (B + 1) W0 wr) (fun t3 _ => n + 1 + zpad n - lenOf t3)
  case atStart => exact ⟨0, Nat.zero_le _, hw2, b2⟩
  case round =>
    clear hw1 hw2 hk1 hk2 b1 b2
    obtain ⟨z, hz, hw, hbw⟩ := hrel
    obtain ⟨A3, c3, hv3, hc3, _, hs3⟩ := hw.reads
    obtain ⟨m, hm⟩ : ∃ m, m = (b ++ 128 :: List.replicate z 0).length := ⟨_, rfl⟩
    have hmn : m = n + 1 + z := by rw [hm, HN.out]; simp; omega
    rw [← hm] at hv3 hc3
    subst hv3
    have HM := Lib.hid hm; have HMN := Lib.hid hmn
    have hmle : m ≤ 1099511627200 := by
      have : zpad n < 64 := by unfold zpad; omega
      omega
    clear hm hmn
    have hmi : ((m % 64 : Nat) : Int) = (m : Int) % 64 := by simp
    by_cases h56 : m % 64 = 56
    · have hzz : z = zpad n := by
        have := zpad_at n
        have := HMN.out
        unfold zpad at *
        omega
      have hq : ((m : Int) % 64 != 56) = false := by rw [← hmi, h56]; rfl
      have hw2 := hw
      rw [hzz] at hw2
      obtain ⟨l, hl⟩ : ∃ l, l = b ++ 128 :: List.replicate (zpad n) 0 := ⟨_, rfl⟩
      have hml : m = l.length := by rw [HM.out, hl, hzz]
      rw [← hl] at hw2
      have hll : l.length ≤ 1099511627100 := by
        have : zpad n < 64 := by unfold zpad; omega
        rw [← hml, HMN.out, hzz]; omega
      have HLL := Lib.hid hll
      clear hll
      have HL := Lib.hid hl; have HML := Lib.hid hml; have HW2 := Lib.hid hw2
      clear hl hml hw2 hzz hmi h56 hw hs3 HM hz
      go_wp2_with fail
      clear hq
      go_loopw [3, 5] (fun t3 t5 wq => ∃ j : Nat, j ≤ 8 ∧ t5 = .int .i64 (7 - (j : Int)) ∧ WinB wq (B + 1) 5 t3 (l ++ (be8 (8 * n)).take j) ∧ Below (B + 1) W0 wq) (fun _ t5 _ => (1 + intOf t5).toNat)
      case atStart => exact ⟨0, by omega, rfl, by simpa using HW2.out, hbw⟩
      case round =>
        clear HW2 hbw
        obtain ⟨j, hj, rfl, hw, hbw⟩ := hrel
        by_cases h8 : j < 8
        · obtain ⟨i, hi⟩ : ∃ i, i = 7 - j := ⟨_, rfl⟩
          have hij : 7 - (j : Int) = (i : Int) := by omega
          rw [hij]
          obtain ⟨d, hd⟩ : ∃ d, d = 8 * i := ⟨_, rfl⟩
          have hdi : 8 * (i : Int) = (d : Int) := by omega
          have hd56 : d ≤ 56 := by omega
          have hi7 : i ≤ 7 := by omega
          obtain ⟨v, hv⟩ : ∃ v, v = 8 * n := ⟨_, rfl⟩
          have hy : ((n : Int) * 8 / 2 ^ d % 256) = ((UInt8.ofNat (v / 2 ^ d)).toNat : Int) := by rw [show (n : Int) * 8 = (v : Int) by omega]; simp
          have htk := be8_take (8 * n) j h8
          rw [← hi, ← hd, ← hv] at htk
          obtain ⟨y, hyy⟩ : ∃ y, y = UInt8.ofNat (v / 2 ^ d) := ⟨_, rfl⟩
          rw [← hyy] at hy htk
          have HY := Lib.hid hy; have HTK := Lib.hid htk
          have hbl : (l ++ (be8 v).take j).length + 1 ≤ 140737488351232 := by
            have := HLL.out
            rw [List.length_append, List.length_take]; omega
          rw [← hv] at hw ⊢
          have HI := Lib.hid hi; have HBL := Lib.hid hbl; have HV := Lib.hid hv
          clear hi hd hv hy htk hyy hbl
          go_wp2_with (at_builtin; refine appW34 rfl (.tmp 31) (.tmp 38) rfl (B + 1) _ (l ++ (be8 v).take j) rfl (hw.below ((Below.refl _ _).alloc (Nat.le_refl _) _)) (some ⟨wr.heap.size, 0, none⟩) 1 [y] rfl (Sl.of_block (heap_alloc_new _ _) (one_byte HY.out)) HBL.out (Nat.le_trans (by have := HS0.out; have := hbw.size; omega) (show wr.heap.size ≤ _ by simp)) ?_; intro v2 w2 hw2 hk2 _)
          have b2 : Below (B + 1) W0 w2 := (hbw.alloc (by have := HS0.out; have := hbw.size; omega) _).trans (hk2.toBelow (by have := HS0.out; have := hbw.size; simp; omega) (fun k hk e => absurd (hw.block k e).1 (by omega)))
          go_roundw
          case rel => exact ⟨j + 1, by omega, by have := HI.out; exact int_eq (by omega), by rw [HTK.out, ← List.append_assoc]; exact hw2, b2⟩
          case measure => have := HI.out; simp only [intOf]; omega
        · have hj8 : j = 8 := by omega
          rw [hj8, show (be8 (8 * n)).take 8 = be8 (8 * n) from rfl] at hw
          obtain ⟨A3, c4, hv3, hc4, hm4, hs4⟩ := hw.reads
          have hpad : l ++ be8 (8 * n) = b ++ padB n := by rw [HL.out]; simp [padB]
          rw [hpad] at hv3 hc4 hs4
          obtain ⟨L, hLL⟩ : ∃ L, L = b ++ padB n := ⟨_, rfl⟩
          obtain ⟨N, hN⟩ : ∃ N, N = L.length := ⟨_, rfl⟩
          have hN64 : N % 64 = 0 := by
            have := pad_len n
            rw [hN, hLL, List.length_append, ← HN.out]; exact this
          have hNle : N ≤ 1099511627200 := by
            have h1 := congrArg List.length hpad
            have := HLL.out
            rw [List.length_append, ← hLL, ← hN] at h1
            have h8l : (be8 (8 * n)).length = 8 := rfl
            omega
          rw [← hLL, ← hN] at hv3 hc4
          rw [← hLL] at hs4
          subst hv3
          have hA3 : ∀ ad, A3 = some ad → ad.block < wr.heap.size := fun ad e => (hw.block ad.block (by rw [e]; rfl)).2
          obtain ⟨Q, hQ⟩ : ∃ Q, N = 64 * Q := ⟨N / 64, by omega⟩
          obtain ⟨H, hH⟩ : ∃ H, H = wr.heap.size := ⟨_, rfl⟩
          obtain ⟨r3, b3⟩ := new_set wr 99 (wv [0, 0, 0, 0, 0]).toArray (wv H0.toL).toArray
          obtain ⟨W3, hW3⟩ : ∃ W3, W3 = (wr.alloc (.cells (wv [0, 0, 0, 0, 0]).toArray 99)).setRow wr.heap.size (wv H0.toL).toArray := ⟨_, rfl⟩
          rw [← hW3, ← hH] at r3 b3
          rw [← hH] at hA3
          have HA3 := Lib.hid hA3; have HQ := Lib.hid hQ
          have hBH : B + 1 ≤ H := by have := HS0.out; have := hbw.size; omega
          have b03 : Below (B + 1) W0 W3 := hbw.trans (b3.mono hBH)
          have HR3 := Lib.hid r3; have HB03 := Lib.hid b03; have HS4 := Lib.hid (hs4.below (by rw [hH] at b3; exact b3)); have HNL := Lib.hid hN; have HLE := Lib.hid hLL; have HBH := Lib.hid hBH; have HH := Lib.hid hH; have HW3 := Lib.hid hW3; have HC4 := Lib.hid hc4
          have z5 := Lib.hid (info5w H0)
          obtain ⟨j5, hj5⟩ : ∃ j5 : Int, j5 = 7 - (j : Int) := ⟨_, rfl⟩
          have hdn : decide (0 ≤ j5) = false := decide_eq_false (by omega)
          rw [← hj5]
          clear hj8 hpad hN hLL hN64 r3 b3 hBH b03 hs4 hH hW3 hw hj5 h8 hj hc4 hA3 hQ
          go_upto_region 11 with (first
            | (refine wpList_store_row rfl 99 (.tmp 6) (.tmp 40) rfl wr.heap.size (wv H0.toL).toArray rfl rfl 99 _ (heap_alloc_new _ _) z5.out rfl (wv_one _) ?_))
          simp only [Act.put]
          rw [show (#[.int .u32 0, .int .u32 0, .int .u32 0, .int .u32 0, .int .u32 0] : Array Value) = (wv [0, 0, 0, 0, 0]).toArray from rfl, ← HW3.out]
          simp only [← HH.out]
          clear z5 hdn HW3 HH hbw HW0
          have hN3 : N ≤ 1099511627200 := hNle
          go_wp2_with fail
          go_loopw [7] (fun t7 wq => ∃ i k : Nat, t7 = .int .i64 (i : Int) ∧ Hid (i = 64 * k) ∧ i ≤ N ∧ Hid (wq.heap[H]? = some (.cells (wv (bl L k).toL).toArray 99 (0, 0))) ∧ Hid (Kp (fun k => k = H) W3 wq)) (fun t7 _ => (N - intOf t7).toNat)
          case atStart => exact ⟨0, 0, rfl, Lib.hid rfl, by omega, HR3, Lib.hid (Kp.refl _ _)⟩
          case round =>
            clear HR3
            obtain ⟨i, k, rfl, HK, hi, R, K⟩ := hrel
            have hsH : H < wr.heap.size := (Array.getElem?_eq_some_iff.1 R.out).1
            by_cases hiN : i < N
            · have hi64 : i + 64 ≤ N := by have := HK.out; have := HQ.out; omega
              have okb : (bl L k).Ok := by
                cases k with
                | zero => exact H0_ok
                | succ k => exact blk_ok _ _
              have hs : ∀ w, (Instr.slice 23 (.slice A3 N c4) (some (.int .i64 (i : Int))) (some (.int .i64 ((i : Int) + 64))) none).run Tryd.prog w = .ok (.slice (cutA A3 c4 i 1) 64 (c4 - i)) w := fun w => by
                have := slice_midB A3 N c4 i (i + 64) (by omega) (by have := HC4.out; omega) w
                rwa [Nat.add_sub_cancel_left, Int.natCast_add] at this
              have hLL : L.length ≤ c4 := by have := HC4.out; have := HNL.out; omega
              have hsA : Bs wr A3 L := Sl.kp HS4.out K.out (fun ad e h => by have := HA3.out ad e; omega)
              have hcut : Bs wr (cutA A3 c4 i 1) ((L.drop i).take 64) := Bs.take (Bs.cut hsA i c4 hLL) 64
              have hp64 : ((L.drop i).take 64).length = 64 := by have := HNL.out; rw [List.length_take, List.length_drop]; omega
              have kb : ∀ w', Below wr.heap.size wr w' → Calls Tryd.prog 56 #[.agg (wv (bl L k).toL).toArray, .slice (cutA A3 c4 i 1) 64 (c4 - i)] w' fun e w'' => e = .returned (.agg (wv (bl L (k + 1)).toL).toArray) ∧ Below wr.heap.size wr w'' := fun w' h => by
                have := quietB h (blockR_any (bl L k) okb _ hp64 (cutA A3 c4 i 1) (c4 - i) w' (hcut.below h) (by have := HC4.out; omega))
                rwa [show blk (bl L k) ((L.drop i).take 64) = bl L (k + 1) by rw [bl, HK.out]] at this
              have lw : ∀ w', Below wr.heap.size wr w' → (loadVar 99 ⟨H, 0, none⟩).run Tryd.prog w' = .ok (.agg (wv (bl L k).toL).toArray) w' := fun w' h =>
                run_loadVar_row w' H 99 99 _ (0, 0) _ ((h.block H hsH).trans R.out) Tryd.underlying99 rfl (info5w _)
              have zb := Lib.hid (info5w (bl L (k + 1)))
              have KB := Lib.hid kb; have LW := Lib.hid lw; have HI := Lib.hid hi64
              clear kb lw hcut hsA hLL hp64 okb
              go_wp2_with fail
              refine wp_region_quiet_tail 7 (C := fun w' => Below wr.heap.size wr w') (Below.refl _ _).drew (by kernel_rfl) (by kernel_rfl) ?_
              simp only [List.take_succ_cons, List.take_zero, List.drop_succ_cons, List.drop_zero]
              (refine wpQuiet_load 99 (.tmp 6) rfl ⟨H, 0, none⟩ rfl _ LW.out _ rfl rfl ?_; simp only [List.set_cons_succ, List.set_cons_zero])
              repeat (go_big_quiet_step ((intro hb; first | (with_reducible exact KB.out _ hb) | rfl)))
              refine wpQuiet_nil ?_
              intro w' hw'
              have hR := Lib.hid ((hw'.block H hsH).trans R.out)
              go_wp2_with (refine wpList_store_row rfl 99 (.tmp 6) (.tmp 53) rfl H (wv (bl L (k + 1)).toL).toArray rfl rfl 99 _ hR.out zb.out (by simp [S5.toL]) (wv_one _) ?_)
              go_roundw
              case rel => exact ⟨i + 64, k + 1, by simp, Lib.hid (by rw [HK.out]; omega), HI.out, Lib.hid (setRow_heap _ _ _ _ _ _ hR.out), Lib.hid (K.out.step (Kp.step (S := fun k => k = H) (Kp.ofBelow hw') (T := fun k => k = H) (kp_setRow _ _ _) (fun _ _ h => h)) (fun _ _ h => h))⟩
              case measure => have := HI.out; simp only [intOf]; omega
            · have hiN2 : i = N := by omega
              obtain ⟨s, hs⟩ : ∃ s, s = bl L k := ⟨_, rfl⟩
              have hsh : sha1 b = outB s := by
                have hk := HK.out
                rw [sha1_bl, hs, ← HN.out, ← HLE.out]
                rw [← HNL.out, show N / 64 = k by omega]
              have okb : s.Ok := by
                rw [hs]
                cases k with
                | zero => exact H0_ok
                | succ k => exact blk_ok _ _
              have r := R.out
              rw [← hs] at r
              have rB : wr.heap[B]? = some (.cells (bvs zs20).toArray 40 (0, 0)) := kp_cell K.out ((HB03.out.block B (by omega)).trans R0.out) (by have := HBH.out; omega)
              have bB : Below B w wr := (HB0.out.trans (HB03.out.mono (by omega))).trans (K.out.toBelow (by have h1 := HB03.out.size; have h2 := HS0.out; omega) (fun q hq e => by have := HBH.out; omega))
              obtain ⟨O, hO⟩ : ∃ O, O = wr.heap.size := ⟨_, rfl⟩
              obtain ⟨W4, hW4⟩ : ∃ W4, W4 = wr.alloc (.cells (bvs zs20).toArray 40) := ⟨_, rfl⟩
              have hHO : H < O := by rw [hO]; exact hsH
              have o4 : W4.heap[O]? = some (.cells (bvs (outRN s 0)).toArray 40 (0, 0)) := by
                rw [hW4, hO, show outRN s 0 = zs20 by simp [outRN, zs20]]; exact heap_alloc_new _ _
              have h4 : W4.heap[H]? = some (.cells (wv s.toL).toArray 99 (0, 0)) := by
                rw [hW4, Below.heap_alloc _ _ _ (by rw [← hO]; exact hHO)]; exact r
              have rB4 : W4.heap[B]? = some (.cells (bvs zs20).toArray 40 (0, 0)) := by
                rw [hW4, Below.heap_alloc _ _ _ (by rw [← hO]; have := HBH.out; omega)]; exact rB
              have bB4 : Below B w W4 := by rw [hW4]; exact bB.alloc (by have := HBH.out; omega) _
              have O4 := Lib.hid o4; have H4 := Lib.hid h4; have RB4 := Lib.hid rB4; have BB4 := Lib.hid bB4; have HO := Lib.hid hO; have HW4 := Lib.hid hW4; have HHO := Lib.hid hHO; have HSH := Lib.hid hsh
              have hdi : decide ((i : Int) < (N : Int)) = false := decide_eq_false (by omega)
              obtain ⟨i7, hi7⟩ : ∃ i7 : Int, i7 = (i : Int) := ⟨_, rfl⟩
              rw [← hi7] at hdi ⊢
              clear hs hsh r rB bB hO hW4 hHO o4 h4 rB4 bB4 hi7 hiN2 hiN hi HK R K hsH
              go_upto_region 16 with fail
              simp only [zlit]
              rw [← HW4.out]
              simp only [← HO.out]
              clear hdi HW4 HO
              go_wp2_with fail
              go_loopw [9] (fun t9 wq => ∃ i : Nat, t9 = .int .i64 (i : Int) ∧ i ≤ 20 ∧ Hid (wq.heap[O]? = some (.cells (bvs (outRN s i)).toArray 40 (0, 0))) ∧ Hid (Kp (fun k => k = O) W4 wq)) (fun t9 _ => (20 - intOf t9).toNat)
              case atStart => exact ⟨0, rfl, by omega, O4, Lib.hid (Kp.refl _ _)⟩
              case round =>
                clear O4
                obtain ⟨i, rfl, hi, R, K⟩ := hrel
                by_cases h20 : i < 20
                · obtain ⟨j, hj⟩ : ∃ j, j = i / 4 := ⟨_, rfl⟩
                  obtain ⟨r, hr⟩ : ∃ r, r = i % 4 := ⟨_, rfl⟩
                  obtain ⟨d, hd⟩ : ∃ d, d = 24 - 8 * r := ⟨_, rfl⟩
                  have hkj : (i : Int) / 4 = (j : Int) := by omega
                  have hmod : (i : Int) % 4 = (r : Int) := by omega
                  have hr3 : r ≤ 3 := by omega
                  have hd8 : 24 - 8 * (r : Int) = (d : Int) := by omega
                  have hd24 : d ≤ 24 := by omega
                  have hj5 : j < 5 := by omega
                  have hH := kp_cell K.out H4.out (by have := HHO.out; omega)
                  have hcell : wr.cell? ⟨H, j, none⟩ = some (.int .u32 ((s.toL.getD j 0 : Nat) : Int)) := by rw [cell_of_row _ _ _ _ _ _ hH]; exact toL_get s j hj5
                  have hset := outRN_set s i h20
                  rw [← hj, ← hr, ← hd] at hset
                  have hx := toL_lt okb j
                  generalize s.toL.getD j 0 = x at hcell hset hx
                  have hy : ((x : Int) / 2 ^ d % 256) = ((UInt8.ofNat (x / 2 ^ d)).toNat : Int) := by simp
                  rw [← hy] at hset
                  have hold : ∃ u, wr.cell? ⟨O, i, none⟩ = some u := by
                    rw [cell_of_row _ _ _ _ _ _ R.out]
                    exact ⟨_, by rw [List.getElem?_toArray]; exact List.getElem?_eq_getElem (by rw [bvs_length, outRN_len s i hi]; exact h20)⟩
                  obtain ⟨u, hu⟩ := hold
                  have hfz : wr.frozen? ⟨O, i, none⟩ = false := frozen_of_row _ _ _ _ _ R.out
                  have HSET := Lib.hid hset
                  clear hset hy hH hj hr hd
                  go_wp2_with fail
                  go_roundw
                  case rel => exact ⟨i + 1, by simp, by omega, Lib.hid ((heap_setCell_same wr O i _ _ _ R.out).trans (by rw [HSET.out])), Lib.hid (K.out.setCell (.inl rfl) _)⟩
                  case measure => simp only [intOf]; omega
                · have hi20 : i = 20 := by omega
                  have r := R.out
                  rw [hi20, show outRN s 20 = outB s by simp [outRN]; exact List.take_of_length_le (Nat.le_of_eq (outB_len s))] at r
                  have RR := Lib.hid r
                  have rb := Lib.hid (kp_cell K.out RB4.out (by have := HHO.out; have := HBH.out; omega))
                  have bB : Below B w wr := BB4.out.trans (K.out.toBelow (by have := BB4.out.size; rw [HB.out]; exact this) (fun q hq e => by have := HHO.out; have := HBH.out; omega))
                  have BB := Lib.hid bB
                  have zo := Lib.hid (info22 (outB s) (outB_len s))
                  have hd : decide ((i : Int) < 20) = false := decide_eq_false (by omega)
                  clear hi20 r R bB
                  go_wp2_with (first
                    | (refine wpList_load_row rfl 40 (.tmp 8) rfl O rfl 40 (bvs (outB s)).toArray (0, 0) _ RR.out Tryd.underlying40 rfl zo.out ?_)
                    | (refine wpList_store_row rfl 40 (.tmp 2) (.tmp 71) rfl B (bvs (outB s)).toArray rfl rfl 40 _ rb.out zo.out (by simp [zs20_len, outB_len]) (one_bvs _) ?_))
                  refine bodyPost_ret (results_cell_row rfl _ _ B 40 (bvs (outB s)).toArray (0, 0) _ rfl (setRow_heap _ _ _ _ _ _ rb.out) Tryd.underlying40 rfl zo.out) rfl ?_
                  exact ⟨by rw [HSH.out], by have := BB.out; rw [HB.out] at this ⊢; exact below_setRow this _ (Nat.le_refl _) _⟩
    · have hzl : z < zpad n := by
        have := zpad_least n z (by have := HMN.out; omega) hz
        exact this
      have hq : ((m : Int) % 64 != 56) = true := by
        rw [← hmi]
        simp only [bne_iff_ne, ne_eq]
        omega
      have hbl : (b ++ 128 :: List.replicate z 0).length + 1 ≤ 140737488351232 := by rw [← HM.out]; omega
      have HBL := Lib.hid hbl; have HZL := Lib.hid hzl
      clear hbl hmi hs3 hzl h56 hz
      go_wp2_with (at_builtin; refine appW34 rfl (.tmp 20) (.tmp 21) rfl (B + 1) _ (b ++ 128 :: List.replicate z 0) rfl (hw.below ((Below.refl _ _).alloc (Nat.le_refl _) _)) (some ⟨wr.heap.size, 0, none⟩) 1 [0] rfl (Sl.of_block (heap_alloc_new _ _) (one_byte rfl)) HBL.out (Nat.le_trans (by have := HS0.out; have := hbw.size; omega) (show wr.heap.size ≤ _ by simp)) ?_; intro v2 w2 hw2 hk2 _)
      have b2 : Below (B + 1) W0 w2 := (hbw.alloc (by have := HS0.out; have := hbw.size; omega) _).trans (hk2.toBelow (by have := HS0.out; have := hbw.size; simp; omega) (fun k hk e => absurd (hw.block k e).1 (by omega)))
      have e2 : (b ++ 128 :: List.replicate z 0) ++ [0] = b ++ 128 :: List.replicate (z + 1) 0 := by
        rw [List.append_assoc, List.cons_append, List.replicate_succ']
      rw [e2] at hw2
      obtain ⟨A5, c5, hv5, _, _, _⟩ := hw2.reads
      go_roundw
      case rel => exact ⟨z + 1, HZL.out, hw2, b2⟩
      case measure =>
        have h1 : lenOf v2 = m + 1 := by
          rw [hv5]
          show (b ++ 128 :: List.replicate (z + 1) 0).length = _
          rw [← e2, List.length_append, ← HM.out]; rfl
        have := HMN.out; have := HZL.out
        show n + 1 + zpad n - lenOf v2 < n + 1 + zpad n - m
        omega
end Go.Proofs.YtmfhlhjnfaiegaaDoor
