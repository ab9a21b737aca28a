/- The maker's run writes steps that tell the target. Condition: base and target have at most 2^28 bytes. -/
import Derived.Test.YtpfjkappgdpfbaaDelH
namespace Go.Proofs.Ytpfjkappgdpfbaa
set_option linter.unusedVariables false
open Go.RowKit
open Go.ChangeMaps Go.MapKept Go.ChangeShapes Go.Maps
set_option maxRecDepth 100000
set_option maxHeartbeats 8000000
theorem run_any (B mb mbk s0 n0 : Nat) (F : Nat → Prop) (Ab : Option Addr) (cb : Nat) (base : List UInt8) (At : Option Addr) (ct : Nat) (target : List UInt8) (x : List UInt8) (w : World)
    (hmb : B ≤ mb) (hFm : ¬ F mb) (hF : ∀ g, F g → g < w.heap.size) (hFk : F mbk) (hFr : ∀ g, s0 ≤ g → g < w.heap.size → F g) (hBw : B ≤ w.heap.size)
    (hM : Mk B mb F (.slice Ab base.length cb) (.map (some mbk)) x [] w) (hMq : Mq base.length s0 mbk n0 w) (hn0 : n0 ≤ base.length)
    (hAb : ∀ w', Kq B F w w' → Bs w' Ab base) (hAt : ∀ w', Kq B F w w' → Bs w' At target)
    (hct : target.length ≤ ct) (hcm : ct ≤ maxLen) (hx : x.length ≤ 1048576) (hb : base.length ≤ 268435456) (ht : target.length ≤ 268435456) :
    Calls Try.prog 57 #[.pointer (some ⟨mb, 0, none⟩), .slice At target.length ct] w fun e w' => e = .returned (.tuple #[]) ∧
      ∃ ops, Good base ops ∧ text base ops = target ∧ (encs ops).length ≤ 2 * target.length ∧ Mk B mb F (.slice Ab base.length cb) (.map (some mbk)) (x ++ encs ops) [] w' ∧ Kq B F w w' := by
  have kt0 := top_any w
  go_enter Try.func57, Try.ntmps57
  go_wp2_with (go_at_call 63; (with_reducible refine kt0.mono ?_); rintro e w1 ⟨⟨hi, rfl, hh0, hh1⟩, rfl⟩)
  go_loopw [5, 6, 7] (fun t5 t6 t7 wr => ∃ (v : Int) (p : Nat) (h : Bool) (ops : List DOp) (y : List UInt8), t5 = .int .u32 v ∧ 0 ≤ v ∧ v < 4294967296 ∧ t6 = .int .i64 p ∧ t7 = .bool h ∧ p ≤ target.length ∧ (h = true → p + 16 ≤ target.length) ∧ y.length ≤ p ∧
      Good base ops ∧ text base ops ++ y = target.take p ∧ (encs ops).length + 2 * y.length ≤ 2 * p ∧ Mk B mb F (.slice Ab base.length cb) (.map (some mbk)) (x ++ encs ops) y wr ∧ Kq B F w wr) (fun _ t6 _ _ => target.length - (intOf t6).toNat)
  case atStart => exact ⟨0, 0, false, [], [], rfl, by omega, by omega, rfl, rfl, by omega, (fun h => by cases h), by simp, Good.nil _, rfl, by simp [encs_nil], by simpa [encs_nil] using hM, Kp.refl _ _⟩
  case round =>
    obtain ⟨v, p, h, ops, y, rfl, hv0, hv1, rfl, rfl, hp, hhp, hyp, hgd, htx, hsz, hMk, hk⟩ := hrel
    have hAbr : Bs wr Ab base := hAb wr hk
    have hAtr : Bs wr At target := hAt wr hk
    have hMqr := hMq.kept (hk.block mbk (hF mbk hFk) (fun hh => hh.2 hFk)) (fun g h1 h2 => hk.block g h2 (fun hh => hh.2 (hFr g h1 h2)))
    have hFw : ∀ g, F g → g < wr.heap.size := fun g hg => Nat.lt_of_lt_of_le (hF g hg) hk.size
    have hBr := Nat.le_trans hBw hk.size
    have hxl : (x ++ encs ops).length ≤ 1073741824 := by rw [List.length_append]; omega
    have HGD := Lib.hid hgd; have HTX := Lib.hid htx; have HMK := Lib.hid hMk; have HXL := Lib.hid hxl
    clear hgd htx hMk hxl
    by_cases hlt : p < target.length
    · go_upto_region 4 with fail
      go_cut [24] from 12 to 112 (fun t24 wx => t24 = .bool (!h && decide (p + 16 ≤ target.length)) ∧ wx = wr)
      case first =>
        cases h with
        | true =>
          go_wp2
          go_meet
          case rel => exact ⟨rfl, rfl⟩
        | false =>
          by_cases h16 : p + 16 ≤ target.length
          · have b1 : decide ((p : Int) + 16 ≤ (target.length : Int)) = true := decide_eq_true (by omega)
            go_wp2
            go_meet
            case rel => exact ⟨by rw [decide_eq_true h16]; rfl, rfl⟩
          · have b1 : decide ((p : Int) + 16 ≤ (target.length : Int)) = false := decide_eq_false (by omega)
            go_wp2
            go_meet
            case rel => exact ⟨by rw [decide_eq_false h16]; rfl, rfl⟩
      case rest =>
      obtain ⟨rfl, rfl⟩ := hcut
      go_upto_if 24 with fail
      go_cut [5, 7] from 12 to 112 (fun t5 t7 wx => ∃ (v2 : Int) (h2 : Bool), t5 = .int .u32 v2 ∧ 0 ≤ v2 ∧ v2 < 4294967296 ∧ t7 = .bool h2 ∧ (h2 = true → p + 16 ≤ target.length) ∧ wx = wc)
      case first =>
        by_cases h24 : (!h && decide (p + 16 ≤ target.length)) = true
        · have h16 : p + 16 ≤ target.length := by simp at h24; exact h24.2
          simp only [h24]
          have hs1 := slice_from22 At target.length ct p hp
          have hdl : (target.drop p).length = target.length - p := by simp
          have kt := total_any (cutA At ct p 1) (ct - p) (target.drop p) wc (by rw [hdl]; omega) (by rw [hdl]; omega) (by omega) (Bs.cut hAtr p ct hct)
          rw [hdl] at kt
          have KT := Lib.hid kt
          clear kt hdl
          go_wp2_with (go_at_call 62; (with_reducible refine KT.out.mono ?_); rintro e w1 ⟨⟨v2, rfl, hw0, hw1⟩, rfl⟩)
          go_meet
          case rel => exact ⟨v2, true, rfl, hw0, hw1, rfl, (fun _ => h16), rfl⟩
        · have h24' : (!h && decide (p + 16 ≤ target.length)) = false := by simpa using h24
          simp only [h24']
          go_wp2
          go_meet
          case rel => exact ⟨v, h, rfl, hv0, hv1, rfl, hhp, rfl⟩
      case rest =>
      obtain ⟨v2, h2, rfl, hw0, hw1, rfl, hh2, rfl⟩ := hcut
      clear hhp hv0 hv1
      go_upto_if 29 with fail
      go_cut [6, 7] from 12 to 112 (fun t6 t7 wx => t6 = .int .i64 p ∧ t7 = .bool h2 ∧ Below wc.heap.size wc wx)
      case first =>
        cases h2 with
        | false =>
          go_wp2
          go_meet
          case rel => exact ⟨rfl, rfl, Below.refl _ _⟩
        | true =>
          have h16 := hh2 rfl
          clear hh2
          obtain ⟨D, hown, hPD⟩ := hMqr
          obtain ⟨vo, vw, h1, h2, h3, h4, h5, h6, h7, h8⟩ := HMK.out
          obtain ⟨Aw, cw, rfl, hcw, hcwm, hAw⟩ := WinB.reads h3
          have c1 : wc.cell? ⟨mb, 1, none⟩ = some (.map (some mbk)) := by rw [cell_of_row _ _ _ _ _ _ h1]; rfl
          have hkey := key23 hw0 hw1
          have hml : mb < wc.heap.size := (Array.getElem?_eq_some_iff.1 h1).1
          have H1 := Lib.hid h1; have HOWN := Lib.hid hown; have H2 := Lib.hid h2; have H3 := Lib.hid h3; have H4 := Lib.hid h4; have H5 := Lib.hid h5; have H6 := Lib.hid h6; have H7 := Lib.hid h7; have H8 := Lib.hid h8
          have HB := Lib.hid hAbr; have HT := Lib.hid hAtr
          clear h1 h2 h3 h4 h5 h6 h7 h8 hown hAw hAbr hAtr
          go_upto_if 45 with (first
            | (at_lookup
               refine wpList_lookup_groups _ rfl _ _ 84 rfl 23 94 3 .i64 (int_keyed Try.underlying23) Try.underlying84 (zero94 _) s0 mbk n0 D rfl HOWN.out (by unfold maxLen; omega) _ _ rfl hkey ?_; intro u zs hat hoi hzl hback
               have hpos := hPD.at hat hoi
               obtain ⟨Au, cu, rfl, _, _, hAu⟩ := Win.reads (Win.ofOwns hoi.1)
               have kb := best_zs mb Ab cb base _ vo Aw y.length cw At ct target p Au cu zs wc H1.out HB.out HT.out hp hyp hAu hpos (by omega) (by omega) (by omega)
               have KB := Lib.hid kb
               clear kb hAu hpos hoi hat hback)
            | (go_at_call 64; (with_reducible refine KB.out.mono ?_); rintro e w6 ⟨f, b, n, rfl, hbp, hb6⟩))
          by_cases hn : n = 0
          · subst hn
            go_wp2
            go_meet
            case rel => exact ⟨rfl, rfl, hb6⟩
          · obtain ⟨hb16, hbw, hbpp, hfn, hpn, heq⟩ := hbp.resolve_left hn
            have q1 : decide ((0 : Int) < (n : Int)) = true := decide_eq_true (by omega)
            have h1' : w6.heap[mb]? = some (.cells #[.slice Ab base.length cb, .map (some mbk), vo, .slice Aw y.length cw] 86 (0, 0)) := (hb6.block mb hml).trans H1.out
            have c3 : w6.cell? ⟨mb, 3, none⟩ = some (.slice Aw y.length cw) := by rw [cell_of_row _ _ _ _ _ _ h1']; rfl
            have c3d : w6.drew.cell? ⟨mb, 3, none⟩ = some (.slice Aw y.length cw) := c3
            have fz : w6.drew.frozen? ⟨mb, 3, none⟩ = false := frozen_of_row _ _ _ _ _ h1'
            have hs3 : ∀ W, (Instr.slice 22 (.slice Aw y.length cw) none (some (.int .i64 ((y.length : Int) - (b : Int)))) none).run Try.prog W = .ok (.slice Aw (y.length - b) cw) W := fun W => by
              have := slice_to22 Aw y.length cw (y.length - b) (by omega) W
              rwa [show ((y.length - b : Nat) : Int) = (y.length : Int) - (b : Int) by omega] at this
            have hwr : IntKind.i64.wrap ((y.length : Int) - (b : Int)) = (y.length : Int) - (b : Int) := IntWalk.i64_in _ (by omega)
            obtain ⟨hML, hkL⟩ := Mk.less (k := y.length - b) hmb hFm h1' (Win.below H2.out hb6) (Win.below H3.out hb6) H4.out H5.out H6.out H7.out H8.out (by omega)
            have hML' : Mk B mb F (.slice Ab base.length cb) (.map (some mbk)) (x ++ encs ops) (y.take (y.length - b)) ((w6.setCell ⟨mb, 3, none⟩ (.slice Aw (y.length - b) cw)).drew) := hML.below (Below.refl _ _).drew
            have hk9 : Kq B F w ((w6.setCell ⟨mb, 3, none⟩ (.slice Aw (y.length - b) cw)).drew) := (Kp.trans (Kp.trans hk (Kp.ofBelow hb6)) hkL).drew
            have hkk := hk9.size
            have hyt : (y.take (y.length - b)).length = y.length - b := by simp
            have kf := flush_any B mb F _ _ (x ++ encs ops) (y.take (y.length - b)) _ hmb hFm (fun g hg => Nat.lt_of_lt_of_le (hF g hg) hkk) (Nat.le_trans hBw hkk) hML' (by have := HXL.out; omega) (by rw [hyt]; omega)
            have HYS := Lib.hid (ins_spec base (y.take (y.length - b)).length (y.take (y.length - b)) (Nat.le_refl _))
            have HCS := Lib.hid (cps_spec base (by omega) n f n (Nat.le_refl _) hfn)
            have KF := Lib.hid kf; have HYT := Lib.hid hyt; have HEQ := Lib.hid heq; have HK9 := Lib.hid hk9
            clear kf hML hML' hk9 hkL h1' heq hbp hyt
            go_wp2
            go_still_tail 15, (by kernel_rfl)
            change wpList _ _ _ _ _ w6.drew
            go_wp2_with (first
              | (go_at_call 52; (with_reducible refine KF.out.mono ?_); rintro e w7 ⟨rfl, hM7, hk7⟩
                 have hk7' := Kp.trans HK9.out hk7
                 have hkk7 := hk7'.size
                 have kc := copies_any B mb F _ _ (x ++ encs ops ++ encs (ins (y.take (y.length - b)))) [] f n w7 hmb hFm (fun g hg => Nat.lt_of_lt_of_le (hF g hg) hkk7) (Nat.le_trans hBw hkk7) hM7 (by have h1 := HXL.out; have h2 := HYS.out.2.2; have h3 := HYT.out; rw [List.length_append]; omega) (by omega)
                 have KC := Lib.hid kc; clear kc hM7)
              | (go_at_call 55; (with_reducible refine KC.out.mono ?_); rintro e w8 ⟨rfl, hM8, hk8⟩))
            go_roundw
            case rel =>
              refine ⟨v2, p + n - b, false, ops ++ (ins (y.take (y.length - b)) ++ cps f n), [], rfl, hw0, hw1, by go_num, rfl, by omega, (fun h => by cases h), by simp, HGD.out.append (HYS.out.1.append HCS.out.1), ?_, ?_, ?_, hk7'.trans hk8⟩
              · rw [List.append_nil, text_append, text_append, HYS.out.2.1]
                exact run_step HTX.out hp hbw hpn hbpp (by rw [HCS.out.2.1]; exact HEQ.out)
              · rw [encs_append, encs_append, List.length_append, List.length_append]
                have h1 := HYS.out.2.2; have h2 := HCS.out.2.2; have h3 := HYT.out
                rw [h3] at h1
                simp only [List.length_nil]
                omega
              · rw [encs_append, encs_append, ← List.append_assoc, ← List.append_assoc]
                exact hM8
            case measure => simp [intOf]; omega
      case rest =>
        obtain ⟨rfl, rfl, hcut⟩ := hcut
        have hMk2 := HMK.out.below hcut
        have hk2 := Kp.trans hk (Kp.ofBelow hcut)
        have hAt2 : Bs wc At target := hAt wc hk2
        have hFw2 : ∀ g, F g → g < wc.heap.size := fun g hg => Nat.lt_of_lt_of_le (hF g hg) hk2.size
        have hB2 := Nat.le_trans hBw hk2.size
        clear hAbr hAtr hMqr hFw hBr hk hcut HMK
        obtain ⟨vo, vw, h1, h2', h3, h4, h5, h6, h7, h8⟩ := hMk2
        obtain ⟨Aw, cw, rfl, hcw, hcwm, hAw⟩ := WinB.reads h3
        obtain ⟨at', rfl, hcell⟩ := Bs.at hAt2 hlt
        have htm := run_more HTX.out hlt
        have HAT := Lib.hid hAt; have HTM := Lib.hid htm
        obtain ⟨c, hc⟩ : ∃ c, c = target[p] := ⟨_, rfl⟩
        rw [← hc] at hcell HTM
        clear hc htm hAt2 hAt
        have c3 : wc.cell? ⟨mb, 3, none⟩ = some (.slice Aw y.length cw) := by rw [cell_of_row _ _ _ _ _ _ h1]; rfl
        have hml : mb < wc.heap.size := (Array.getElem?_eq_some_iff.1 h1).1
        have c3d : wc.drew.cell? ⟨mb, 3, none⟩ = some (.slice Aw y.length cw) := c3
        have hA : Below wc.heap.size wc ((wc.alloc (.cells #[.int .u8 (c.toNat : Int)] 5)).drew) := ((Below.refl _ _).alloc (Nat.le_refl _) _).drew
        have c3a : (wc.alloc (.cells #[.int .u8 (c.toNat : Int)] 5)).cell? ⟨mb, 3, none⟩ = some (.slice Aw y.length cw) := (hA.cell (by exact hml)).trans c3
        have c3b : ((wc.alloc (.cells #[.int .u8 (c.toNat : Int)] 5)).drew).cell? ⟨mb, 3, none⟩ = some (.slice Aw y.length cw) := c3a
        have hcd : wc.drew.cell? (at'.add p) = some (.int .u8 (c.toNat : Int)) := hcell
        have hxy : y.length ≤ 268435456 := by omega
        have hwa : WinB ((wc.alloc (.cells #[.int .u8 (c.toNat : Int)] 5)).drew) B 5 (.slice Aw y.length cw) y := Win.below h3 hA
        have hal : ((wc.alloc (.cells #[.int .u8 (c.toNat : Int)] 5)).drew).heap[wc.heap.size]? = some (.cells #[.int .u8 (c.toNat : Int)] 5) := heap_alloc_new wc _
        have hBa : B ≤ ((wc.alloc (.cells #[.int .u8 (c.toNat : Int)] 5)).drew).heap.size := Nat.le_trans hB2 (by simp)
        have hml2 : ∀ v' w2, WinB w2 B 5 v' (y ++ [c]) → Kp (fun k => (Value.slice Aw y.length cw).ownBlock = some k) ((wc.alloc (.cells #[.int .u8 (c.toNat : Int)] 5)).drew) w2 → (v'.ownBlock = (Value.slice Aw y.length cw).ownBlock ∨ v'.ownBlock = some ((wc.alloc (.cells #[.int .u8 (c.toNat : Int)] 5)).drew).heap.size) →
            w2.cell? ⟨mb, 3, none⟩ = some (.slice Aw y.length cw) ∧ w2.frozen? ⟨mb, 3, none⟩ = false ∧ Mk B mb F (.slice Ab base.length cb) (.map (some mbk)) (x ++ encs ops) (y ++ [c]) (w2.setCell ⟨mb, 3, none⟩ v') ∧ Kq B F w (w2.setCell ⟨mb, 3, none⟩ v') := fun v' w2 hw hk' ho => by
          obtain ⟨e1, e2, e3, e4⟩ := Mk.waited hmb hFm hFw2 h1 h2' h3 h4 h5 h6 h7 h8 hA hk' ho hw
          exact ⟨e1, e2, e3, Kp.trans hk2 e4⟩
        have HML := Lib.hid hml2; have HWA := Lib.hid hwa; have HAL := Lib.hid hal
        clear hml2 hwa hal h1 h2' h3 h4 h5 h6 h7 h8 hAw
        go_wp2
        go_region_law (first
          | (refine step_appW22' rfl (.tmp 76) (.tmp 81) rfl B _ y rfl HWA.out (some ⟨wc.heap.size, 0, none⟩) 1 [c] rfl (Sl.of_block HAL.out (one_byte rfl)) (by simp; omega) hBa ?_
             intro v3 w3 hw3 hk3 ho3
             obtain ⟨A3, c3', rfl, _, _, _⟩ := WinB.readsN (n := y.length + 1) hw3 (by simp)
             obtain ⟨cc3, cf3, hM3, hK3⟩ := HML.out _ _ hw3 hk3 ho3
             clear hw3 hk3 ho3))
        all_goals (
          have hAt3 : Bs (w3.setCell ⟨mb, 3, none⟩ (.slice A3 (y.length + 1) c3')) (some at') target := HAT.out _ hK3
          have hM3' := Lib.hid hM3
          clear hM3 cc3 cf3
          cases h2 with
          | false =>
            go_wp2
            go_roundw
            case rel => exact ⟨v2, p + 1, false, ops, y ++ [c], rfl, hw0, hw1, by go_num, rfl, by omega, (fun h => by cases h), by simp; omega, HGD.out, HTM.out, by simp; omega, hM3'.out, hK3⟩
            case measure => simp [intOf]; omega
          | true =>
            by_cases h17 : p + 16 < target.length
            · obtain ⟨p16, hp16⟩ : ∃ p16 : Nat, p16 = p + 16 := ⟨_, rfl⟩
              rw [← hp16] at h17
              have w1 : (p : Int) + 16 = (p16 : Int) := by omega
              have HP16 := Lib.hid hp16
              clear hp16
              obtain ⟨ax, e, hcA⟩ := Bs.at hAt3 hlt
              injection e with e
              subst e
              obtain ⟨ay, e, hcB⟩ := Bs.at hAt3 h17
              injection e with e
              subst e
              go_wp2
              go_quiet (fail)
              go_wp2
              go_roundw
              case rel => exact ⟨_, p + 1, true, ops, y ++ [c], rfl, by omega, by omega, by go_num, rfl, by omega, (fun _ => by have := HP16.out; omega), by simp; omega, HGD.out, HTM.out, by simp; omega, hM3'.out.below (Below.drewN (Below.refl _ _) _), hK3.drewN _⟩
              case measure => simp [intOf]; omega
            · have b1 : decide ((p : Int) + 16 < (target.length : Int)) = false := decide_eq_false (by omega)
              go_wp2
              go_roundw
              case rel => exact ⟨v2, p + 1, false, ops, y ++ [c], rfl, hw0, hw1, by go_num, rfl, by omega, (fun h => by cases h), by simp; omega, HGD.out, HTM.out, by simp; omega, hM3'.out, hK3⟩
              case measure => simp [intOf]; omega)
    · obtain rfl : p = target.length := by omega
      have htt := HTX.out
      rw [List.take_length] at htt
      have hMf := HMK.out
      have HTT := Lib.hid htt
      have hys := ins_spec base y.length y (Nat.le_refl _)
      have HYS := Lib.hid hys
      clear htt hys
      have kf := flush_any B mb F _ _ (x ++ encs ops) y wr hmb hFm hFw hBr hMf (by have := HXL.out; omega) (by omega)
      have KF := Lib.hid kf; clear kf hMf
      go_wp2_with (go_at_call 52; (with_reducible refine KF.out.mono ?_); rintro e w7 ⟨rfl, hM7, hk7⟩)
      go_end0
      refine ⟨rfl, ops ++ ins y, HGD.out.append HYS.out.1, by rw [text_append, HYS.out.2.1]; exact HTT.out, ?_, ?_, hk.trans hk7⟩
      · rw [encs_append, List.length_append]
        have := HYS.out.2.2
        omega
      · rw [encs_append, ← List.append_assoc]
        exact hM7
end Go.Proofs.Ytpfjkappgdpfbaa
