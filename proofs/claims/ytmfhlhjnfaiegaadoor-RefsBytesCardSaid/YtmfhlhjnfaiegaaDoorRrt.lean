/- The reference's right, nl, said, Encode over rows of refs. Conditions: twenty bytes each, at most 256 rows, names shorter than 2^30. -/
import Derived.Test.YtmfhlhjnfaiegaaDoorRnm
import Derived.Test.YtmfhlhjnfaiegaaDoorEnc
import Derived.Test.YtmfhlhjnfaiegaaDoorShT
import Derived.Test.YtmfhlhjnfaiegaaDoorOidC
namespace Go.Proofs.YtmfhlhjnfaiegaaDoor
open Go.RowKit
set_option maxRecDepth 100000
set_option maxHeartbeats 1000000
set_option linter.unusedVariables false
theorem nlR_any (w : World) : Calls Tryd.prog 39 #[] w fun e w' => e = .returned (.string (bstr [10])) ∧ Below w.heap.size w w' := by
  have hcv := conv34 (w := w.alloc (.cells #[.int .u8 10] 5)) (A := some ⟨w.heap.size, 0, none⟩) (l := [10]) (c := 1) (n := 1) (Sl.of_block (heap_alloc_new _ _) (one_byte rfl)) rfl
  go_enter Tryd.func39, Tryd.ntmps39
  go_wp2
  go_ret
  exact ⟨rfl, (Below.refl _ _).alloc (Nat.le_refl _) _⟩
theorem rightR_any (l : List Rf) (h20 : Rf20 l) (hn : l.length ≤ 256) (hs : ∀ r ∈ l, r.1.length ≤ 1073741824) (A : Option Addr) (c : Nat) (w : World) (hA : Sl w A (rfc l)) :
    Calls Tryd.prog 21 #[.slice A l.length c] w fun e w' => e = .returned (.bool (rightB l)) ∧ Below w.heap.size w w' := by
  obtain ⟨n, hnn⟩ : ∃ n, n = l.length := ⟨_, rfl⟩
  rw [← hnn]
  have hn2 : n ≤ 256 := by omega
  have HN := Lib.hid hnn; have HA := Lib.hid hA; have H20 := Lib.hid h20; have HS := Lib.hid hs
  have HR := Lib.hid (rightB_iff l)
  clear hnn hA h20 hs hn
  go_enter Tryd.func21, Tryd.ntmps21
  go_wp2
  go_loopw [3] (fun t7 wr => ∃ i : Nat, t7 = .int .i64 (i : Int) ∧ i ≤ n ∧ Hid (rightN l i) ∧ Below w.heap.size w wr) (fun t7 _ => (n - intOf t7).toNat)
  case atStart => exact ⟨0, rfl, by omega, Lib.hid (fun j h => by omega), Below.refl _ _⟩
  case round =>
    obtain ⟨i, rfl, hi, hT, hbw⟩ := hrel
    by_cases hin : i < n
    · have hil : i < l.length := by rw [← HN.out]; exact hin
      obtain ⟨ad, rfl⟩ := rsl_some HA.out H20.out i hil
      have R := (rrow HA.out H20.out i hil).below hbw
      have rs : (gtR l i).1.length ≤ 1073741824 := HS.out _ (by
        unfold gtR
        rw [List.getD_eq_getElem?_getD, List.getElem?_eq_getElem hil]
        exact List.getElem_mem hil)
      obtain ⟨r, hr⟩ : ∃ r, r = gtR l i := ⟨_, rfl⟩
      rw [← hr] at R rs
      have l1 : ∀ w', Below wr.heap.size wr w' → (loadVar 9 (ad.add (i * 21))).run Tryd.prog w' = .ok (.string (bstr r.1)) w' := fun w' h => load_one (fun w => by kernel_rfl) (rname (R.below h))
      have c1 : ∀ w', Below wr.heap.size wr w' → Calls Tryd.prog 14 #[.string (bstr r.1)] w' fun e w'' => e = .returned (.bool (nameB r.1)) ∧ Below wr.heap.size wr w'' := fun w' h => quietS h (nameR_any r.1 rs w')
      have hgt : gtN l i = r.1 := by unfold gtN; rw [hr]
      have hno : nameB r.1 = false ∨ (0 < i ∧ ¬ gtN l (i - 1) < r.1) → rightB l = false := fun h => by
        cases hq : rightB l with
        | false => rfl
        | true =>
          have := HR.out.1 hq i hil
          rw [hgt] at this
          rcases h with h | ⟨h, h'⟩
          · rw [h] at this; exact absurd this.1 (by decide)
          · exact absurd (this.2 h) h'
      have hyes : nameB r.1 = true → (0 < i → gtN l (i - 1) < r.1) → rightN l (i + 1) := fun h h' j hj => by
        by_cases e : j = i
        · subst e; rw [hgt]; exact ⟨h, h'⟩
        · exact hT.out j (by omega)
      have L1 := Lib.hid l1; have HNO := Lib.hid hno; have HYES := Lib.hid hyes; have HBW := Lib.hid hbw
      clear hgt hno hyes l1 hr R
      cases hq : nameB r.1 with
      | false =>
        rw [hq] at c1
        have HF := Lib.hid (HNO.out (.inl hq))
        clear hq HNO HYES
        go_upto_region 4 with fail
        refine wp_region_quietC (C := fun w' => Below wr.heap.size wr w') (Below.refl _ _).drew (by kernel_rfl) (by kernel_rfl) ?_
        iterate 4 (go_big_quiet_step ((intro hb; rfl)))
        (refine wpQuiet_load 9 (.tmp 13) rfl (ad.add (i * 21)) rfl (.string (bstr r.1)) L1.out _ rfl rfl ?_; simp only [List.set_cons_succ, List.set_cons_zero])
        go_big_quiet_step ((intro hb; (with_reducible exact c1 _ hb)))
        go_big_quiet_step ((intro hb; rfl))
        with_reducible refine wpQuiet_pure 17 rfl (by kernel_rfl) (.bool true) (fun w => by kernel_rfl) ?_
        simp only [List.set_cons_succ, List.set_cons_zero]
        iterate 16 (with_reducible refine wpQuiet_skip _ rfl (by kernel_rfl) ?_; simp only [List.set_cons_succ, List.set_cons_zero])
        with_reducible refine wpQuiet_pure 34 rfl (by kernel_rfl) (.bool true) (fun w => by kernel_rfl) ?_
        simp only [List.set_cons_succ, List.set_cons_zero]
        refine wpQuiet_nil ?_
        intro w' hw'
        go_wp2
        go_ret
        exact ⟨by rw [HF.out]; rfl, HBW.out.trans (hw'.mono HBW.out.size)⟩
      | true =>
        rw [hq] at c1
        by_cases h0 : 0 < i
        · obtain ⟨k, hk⟩ : ∃ k, i = k + 1 := ⟨i - 1, by omega⟩
          have hkl : k < l.length := by omega
          have K := (rrow HA.out H20.out k hkl).below HBW.out
          have hgk : gtN l (i - 1) = (gtR l k).1 := by rw [hk]; rfl
          obtain ⟨y, hy⟩ : ∃ y, y = gtR l k := ⟨_, rfl⟩
          rw [← hy] at K hgk
          have l2 : ∀ w', Below wr.heap.size wr w' → (loadVar 9 (ad.add (k * 21))).run Tryd.prog w' = .ok (.string (bstr y.1)) w' := fun w' h => load_one (fun w => by kernel_rfl) (rname (K.below h))
          have L2 := Lib.hid l2
          have hwk : IntKind.i64.wrap ((i : Int) - 1) = (k : Int) := by rw [IntWalk.i64_in _ (by omega)]; omega
          have hkn : (k : Int) < (n : Int) := by omega
          have hd0 : decide (0 < i) = true := decide_eq_true (by omega)
          have hk1 : k + 1 ≤ i := by omega
          by_cases hlt : y.1 < r.1
          · have hls : Op.bytesLess y.1 r.1 = true := by rw [bless]; exact decide_eq_true hlt
            have HF := Lib.hid (HYES.out hq (fun _ => by rw [hgk]; exact hlt))
            clear hq HNO HYES K l2 hy hgk hlt h0 hk
            go_upto_region 4 with fail
            refine wp_region_quietC (C := fun w' => Below wr.heap.size wr w') (Below.refl _ _).drew (by kernel_rfl) (by kernel_rfl) ?_
            repeat (first
              | (refine wpQuiet_load 9 (.tmp 13) rfl (ad.add (i * 21)) rfl (.string (bstr r.1)) L1.out _ rfl rfl ?_; simp only [List.set_cons_succ, List.set_cons_zero])
              | (refine wpQuiet_load 9 (.tmp 25) rfl (ad.add (k * 21)) rfl (.string (bstr y.1)) L2.out _ rfl rfl ?_; simp only [List.set_cons_succ, List.set_cons_zero])
              | (refine wpQuiet_load 9 (.tmp 30) rfl (ad.add (i * 21)) rfl (.string (bstr r.1)) L1.out _ rfl rfl ?_; simp only [List.set_cons_succ, List.set_cons_zero])
              | go_big_quiet_step ((intro hb; first | (with_reducible exact c1 _ hb) | rfl)))
            refine wpQuiet_nil ?_
            intro w' hw'
            go_wp2
            go_roundw
            case rel => exact ⟨i + 1, by simp, by omega, HF, HBW.out.trans (hw'.mono HBW.out.size)⟩
            case measure => simp only [intOf]; omega
          · have hls : Op.bytesLess y.1 r.1 = false := by rw [bless]; exact decide_eq_false hlt
            have HF := Lib.hid (HNO.out (.inr ⟨h0, by rw [hgk]; exact hlt⟩))
            clear hq HNO HYES K l2 hy hgk hlt h0 hk
            go_upto_region 4 with fail
            refine wp_region_quietC (C := fun w' => Below wr.heap.size wr w') (Below.refl _ _).drew (by kernel_rfl) (by kernel_rfl) ?_
            repeat (first
              | (refine wpQuiet_load 9 (.tmp 13) rfl (ad.add (i * 21)) rfl (.string (bstr r.1)) L1.out _ rfl rfl ?_; simp only [List.set_cons_succ, List.set_cons_zero])
              | (refine wpQuiet_load 9 (.tmp 25) rfl (ad.add (k * 21)) rfl (.string (bstr y.1)) L2.out _ rfl rfl ?_; simp only [List.set_cons_succ, List.set_cons_zero])
              | (refine wpQuiet_load 9 (.tmp 30) rfl (ad.add (i * 21)) rfl (.string (bstr r.1)) L1.out _ rfl rfl ?_; simp only [List.set_cons_succ, List.set_cons_zero])
              | go_big_quiet_step ((intro hb; first | (with_reducible exact c1 _ hb) | rfl)))
            refine wpQuiet_nil ?_
            intro w' hw'
            go_wp2
            go_ret
            exact ⟨by rw [HF.out]; rfl, HBW.out.trans (hw'.mono HBW.out.size)⟩
        · obtain rfl : i = 0 := by omega
          have HF := Lib.hid (HYES.out hq (fun h => absurd h h0))
          clear hq HNO HYES h0
          go_upto_region 4 with fail
          refine wp_region_quietC (C := fun w' => Below wr.heap.size wr w') (Below.refl _ _).drew (by kernel_rfl) (by kernel_rfl) ?_
          iterate 4 (go_big_quiet_step ((intro hb; rfl)))
          refine wpQuiet_load 9 (.tmp 13) rfl _ rfl (.string (bstr r.1)) L1.out _ rfl rfl ?_
          simp only [List.set_cons_succ, List.set_cons_zero]
          go_big_quiet_step ((intro hb; (with_reducible exact c1 _ hb)))
          iterate 4 (go_big_quiet_step ((intro hb; rfl)))
          with_reducible refine wpQuiet_pure 20 rfl (by kernel_rfl) (.bool false) (fun w => by kernel_rfl) ?_
          simp only [List.set_cons_succ, List.set_cons_zero]
          iterate 12 (with_reducible refine wpQuiet_skip _ rfl (by kernel_rfl) ?_; simp only [List.set_cons_succ, List.set_cons_zero])
          with_reducible refine wpQuiet_pure 33 rfl (by kernel_rfl) (.bool false) (fun w => by kernel_rfl) ?_
          simp only [List.set_cons_succ, List.set_cons_zero]
          with_reducible refine wpQuiet_pure 34 rfl (by kernel_rfl) (.bool false) (fun w => by kernel_rfl) ?_
          simp only [List.set_cons_succ, List.set_cons_zero]
          refine wpQuiet_nil ?_
          intro w' hw'
          go_wp2
          go_roundw
          case rel => exact ⟨1, rfl, by omega, HF, HBW.out.trans (hw'.mono HBW.out.size)⟩
          case measure => simp only [intOf]; omega
    · obtain rfl : i = n := by omega
      have h : rightB l = true := HR.out.2 (by rw [← HN.out]; exact hT.out)
      have HY := Lib.hid h
      clear h
      go_wp2
      go_ret
      exact ⟨by rw [HY.out]; rfl, hbw⟩
theorem said_line (l : List Rf) (i : Nat) (h : i < l.length) : (bstr (textB (l.take i)) ++ bstr (hexs (gtR l i).2) ++ ⟨#[32]⟩ ++ bstr (gtR l i).1 ++ bstr [10] : ByteArray) = bstr (textB (l.take (i + 1))) := by
  rw [text_take l i h]
  apply ByteArray.ext
  simp [lineB]
theorem said_end (t : List UInt8) : (bstr t ++ ⟨#[115, 117, 109, 32]⟩ ++ bstr (hexs (sha1 t)) ++ bstr [10] : ByteArray) = bstr (t ++ sumB t) := by
  apply ByteArray.ext
  simp [sumB]
theorem load_id40 (id : List UInt8) (hid : id.length = 20) (ad : Addr) (w : World) (h : Sl w (some ad) (bvs id)) : (loadVar 40 ad).run Tryd.prog w = .ok (idv id) w :=
  load_idT 40 (fun w => by kernel_rfl) (fun w => by kernel_rfl) id hid ad w h
theorem saidR_any (l : List Rf) (h20 : Rf20 l) (hn : l.length ≤ 256) (hs : ∀ r ∈ l, r.1.length ≤ 1073741824) (A : Option Addr) (c : Nat) (w : World) (hA : Sl w A (rfc l)) :
    Calls Tryd.prog 22 #[.slice A l.length c] w fun e w' => (∃ A' c', e = .returned (.slice A' (saidB l).length c') ∧ Bs w' A' (saidB l)) ∧ Below w.heap.size w w' := by
  obtain ⟨n, hnn⟩ : ∃ n, n = l.length := ⟨_, rfl⟩
  have hlen := fun i => text_len (l.take i) (fun x hx => h20 x (List.mem_of_mem_take hx)) (fun x hx => hs x (List.mem_of_mem_take hx))
  rw [← hnn]
  have hn2 : n ≤ 256 := by omega
  have HN := Lib.hid hnn; have HA := Lib.hid hA; have H20 := Lib.hid h20; have HS := Lib.hid hs; have HL := Lib.hid hlen
  clear hnn hA h20 hs hn hlen
  go_enter Tryd.func22, Tryd.ntmps22
  go_wp2
  go_loopw [3, 4] (fun t3 t4 wr => ∃ i : Nat, t4 = .int .i64 (i : Int) ∧ i ≤ n ∧ t3 = .string (bstr (textB (l.take i))) ∧ Below w.heap.size w wr) (fun _ t4 _ => (n - intOf t4).toNat)
  case atStart => exact ⟨0, rfl, by omega, rfl, Below.refl _ _⟩
  case round =>
    obtain ⟨i, rfl, hi, rfl, hbw⟩ := hrel
    have hti : (l.take i).length ≤ 256 := by rw [List.length_take]; omega
    have hl2 : (textB (l.take i)).length ≤ 256 * 1073741866 := Nat.le_trans (HL.out i) (Nat.mul_le_mul_right _ hti)
    by_cases hin : i < n
    · have hil : i < l.length := by rw [← HN.out]; exact hin
      obtain ⟨ad, rfl⟩ := rsl_some HA.out H20.out i hil
      have R := (rrow HA.out H20.out i hil).below hbw
      have r20 := gtR_20 H20.out i hil
      have rs : (gtR l i).1.length ≤ 1073741824 := HS.out _ (by
        unfold gtR
        rw [List.getD_eq_getElem?_getD, List.getElem?_eq_getElem hil]
        exact List.getElem_mem hil)
      have HEQ := Lib.hid (said_line l i hil)
      obtain ⟨r, hr⟩ : ∃ r, r = gtR l i := ⟨_, rfl⟩
      rw [← hr] at R r20 rs HEQ
      have l1 : ∀ w', Below wr.heap.size wr w' → (loadVar 9 (ad.add (i * 21))).run Tryd.prog w' = .ok (.string (bstr r.1)) w' := fun w' h => load_one (fun w => by kernel_rfl) (rname (R.below h))
      have l2 : ∀ w', Below wr.heap.size wr w' → (loadVar 40 ((ad.add (i * 21)).add 1)).run Tryd.prog w' = .ok (idv r.2) w' := fun w' h => load_id40 r.2 r20 _ w' (rid (R.below h))
      have c1 : ∀ w', Below wr.heap.size wr w' → Calls Tryd.prog 38 #[idv r.2] w' fun e w'' => e = .returned (.string (bstr (hexs r.2))) ∧ Below wr.heap.size wr w'' := fun w' h => quietB h (hexRef_any r.2 w' r20)
      have c2 : ∀ w', Below wr.heap.size wr w' → Calls Tryd.prog 39 #[] w' fun e w'' => e = .returned (.string (bstr [10])) ∧ Below wr.heap.size wr w'' := fun w' h => quietB h (nlR_any w')
      have L1 := Lib.hid l1; have L2 := Lib.hid l2; have C1 := Lib.hid c1; have C2 := Lib.hid c2
      have H1 := Lib.hid (show (hexs r.2).length = 40 by rw [hexs_len, r20])
      have H2 := Lib.hid rs; have H3 := Lib.hid hl2; have HBW := Lib.hid hbw
      clear l1 l2 c1 c2 R hr rs hl2 hti
      go_upto_region 5 with fail
      refine wp_region_quietC (C := fun w' => Below wr.heap.size wr w') (Below.refl _ _).drew (by kernel_rfl) (by kernel_rfl) ?_
      repeat (first
        | (refine wpQuiet_load 40 (.tmp 16) rfl ((ad.add (i * 21)).add 1) rfl (idv r.2) L2.out _ rfl rfl ?_; simp only [List.set_cons_succ, List.set_cons_zero])
        | (refine wpQuiet_load 9 (.tmp 24) rfl (ad.add (i * 21)) rfl (.string (bstr r.1)) L1.out _ rfl rfl ?_; simp only [List.set_cons_succ, List.set_cons_zero])
        | go_big_quiet_step ((intro hb; first | (with_reducible exact C1.out _ hb) | (with_reducible exact C2.out _ hb) | rfl | (rw [if_neg (by have := H1.out; have := H2.out; have := H3.out; simp; omega)]; exact ⟨rfl, rfl⟩))))
      refine wpQuiet_nil ?_
      intro w' hw'
      simp only [HEQ.out]
      go_wp2
      go_roundw
      case rel => exact ⟨i + 1, by simp, by omega, rfl, HBW.out.trans (hw'.mono HBW.out.size)⟩
      case measure => simp only [intOf]; omega
    · have hi2 : i = n := by omega
      have htl : l.take i = l := List.take_of_length_le (by rw [hi2, ← HN.out]; exact Nat.le_refl _)
      rw [htl] at hl2 ⊢
      obtain ⟨t, ht⟩ : ∃ t, t = textB l := ⟨_, rfl⟩
      rw [← ht] at hl2 ⊢
      have hsd : saidB l = t ++ sumB t := by rw [saidB, ht]
      have HSD := Lib.hid hsd
      have h45 : (sumB t).length = 45 := by simp [sumB, hexs_len, sha1_len]
      obtain ⟨W1, c1, hcv, hb1, hs1⟩ := bytes_new t wr
      have k1 := sumR_any t (by omega) _ c1 W1 hs1
      obtain ⟨x, hx⟩ : ∃ x, x = sha1 t := ⟨_, rfl⟩
      have x20 : x.length = 20 := by rw [hx]; exact sha1_len t
      have HEQ := Lib.hid (said_end t)
      rw [← hx] at k1 HEQ
      have zx := Lib.hid (info22 x x20)
      have hxl : (hexs x).length ≤ 40 := by rw [hexs_len, x20]; omega
      have K1 := Lib.hid k1; have HB1 := Lib.hid hb1; have H45 := Lib.hid h45; have X20 := Lib.hid x20; have HXL := Lib.hid hxl
      have hdn : decide (i < n) = false := decide_eq_false (by omega)
      clear hi2 htl ht hsd hs1 k1 hb1 hx x20 h45 hin
      go_wp2_with (first
        | (go_at_call 40; (with_reducible refine K1.out.mono ?_); rintro e w2 ⟨rfl, hb2⟩)
        | (refine wpList_store_row rfl 40 (.tmp 5) (.tmp 31) rfl w2.heap.size (bvs x).toArray rfl rfl 40 _ (heap_alloc_new _ _) zx.out (by rw [show (bvs x).toArray.size = 20 by simp [X20.out]]; rfl) (one_bvs _) ?_
           obtain ⟨r3, b3⟩ := new_set w2 40 (bvs zs20).toArray (bvs x).toArray
           simp only [zlit]
           obtain ⟨W3, hW3⟩ : ∃ W3, W3 = (w2.alloc (.cells (bvs zs20).toArray 40)).setRow w2.heap.size (bvs x).toArray := ⟨_, rfl⟩
           rw [← hW3] at r3 b3 ⊢
           have l3 := load_id40 x X20.out ⟨w2.heap.size, 0, none⟩ W3 (Sl.of_block r3 (fun j v hj => by simpa using hj))
           have k4 := hexRef_any x W3 X20.out
           clear hW3 r3)
        | (refine wpList_loadG 40 (.tmp 5) rfl ⟨w2.heap.size, 0, none⟩ rfl (idv x) l3 rfl ?_)
        | (go_at_call 38; (with_reducible refine k4.mono ?_); rintro e w4 ⟨rfl, hb4⟩)
        | (go_at_call 39; (with_reducible refine (nlR_any _).mono ?_); rintro e w5 ⟨rfl, hb5⟩
           obtain ⟨W6, c6, hcv6, hb6, hs6⟩ := bytes_new (t ++ sumB t) w5
           rw [← HEQ.out] at hcv6))
      go_ret
      have b2 := HB1.out.trans (hb2.mono HB1.out.size)
      have b3' := b2.trans (b3.mono b2.size)
      have b4 := b3'.trans (hb4.mono b3'.size)
      have b5 := b4.trans (hb5.mono b4.size)
      have b6 := b5.trans (hb6.mono b5.size)
      exact ⟨⟨_, c6, by rw [HSD.out, List.length_append]; rfl, by rw [HSD.out]; exact hs6⟩, hbw.trans (b6.mono hbw.size)⟩
theorem encR_any (l : List Rf) (h20 : Rf20 l) (hn : l.length ≤ 256) (hs : ∀ r ∈ l, r.1.length ≤ 1073741824) (A : Option Addr) (c : Nat) (w : World) (hA : Sl w A (rfc l)) :
    Calls Tryd.prog 8 #[.slice A l.length c] w fun e w' => (∃ A' c', e = .returned (.tuple #[.slice A' (encI l).1.length c', .int .i64 ((encI l).2 : Int)]) ∧ Bs w' A' (encI l).1) ∧ Below w.heap.size w w' := by
  have kr := rightR_any l h20 hn hs A c w hA
  have kt := fun w' (h : Below w.heap.size w w') => saidR_any l h20 hn hs A c w' (hA.below h)
  obtain ⟨n, hnn⟩ : ∃ n, n = l.length := ⟨_, rfl⟩
  rw [← hnn] at hn kr kt ⊢
  have HN := Lib.hid hnn
  clear h20 hs hnn hA
  cases hr : rightB l with
  | false =>
    rw [hr] at kr
    have HE' := Lib.hid (show encI l = ([], 1) by rw [encI, hr]; rfl)
    clear hr
    go_enter Tryd.func8, Tryd.ntmps8
    go_wp2_with (go_at_call 21; (with_reducible refine kr.mono ?_); rintro e w1 ⟨rfl, hb1⟩)
    go_ret2
    exact ⟨⟨none, 0, by rw [HE'.out]; rfl, by rw [HE'.out]; exact Sl.nil _ _⟩, hb1⟩
  | true =>
    rw [hr] at kr
    by_cases h64 : 64 < n
    · have HE' := Lib.hid (show encI l = ([], 5) by rw [encI, hr, if_pos rfl, if_pos (by rw [← HN.out]; exact h64)])
      have hd : decide ((64 : Int) < (n : Int)) = true := decide_eq_true (by omega)
      clear hr
      go_enter Tryd.func8, Tryd.ntmps8
      go_wp2_with (go_at_call 21; (with_reducible refine kr.mono ?_); rintro e w1 ⟨rfl, hb1⟩)
      go_ret2
      exact ⟨⟨none, 0, by rw [HE'.out]; rfl, by rw [HE'.out]; exact Sl.nil _ _⟩, hb1⟩
    · have HE' := Lib.hid (show encI l = (saidB l, 0) by rw [encI, hr, if_pos rfl, if_neg (by rw [← HN.out]; exact h64)])
      have hd : decide ((64 : Int) < (n : Int)) = false := decide_eq_false (by omega)
      clear hr
      go_enter Tryd.func8, Tryd.ntmps8
      go_wp2_with (first
        | (go_at_call 21; (with_reducible refine kr.mono ?_); rintro e w1 ⟨rfl, hb1⟩)
        | (go_at_call 22; (with_reducible refine (kt _ hb1).mono ?_); rintro e w2 ⟨⟨A2, c2, rfl, hs2⟩, hb2⟩))
      go_ret2
      exact ⟨⟨A2, c2, by rw [HE'.out]; rfl, by rw [HE'.out]; exact hs2⟩, hb1.trans (hb2.mono hb1.size)⟩
end Go.Proofs.YtmfhlhjnfaiegaaDoor
