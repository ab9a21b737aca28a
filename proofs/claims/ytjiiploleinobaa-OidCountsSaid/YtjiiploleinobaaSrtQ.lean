/- slices.Compact of a row of names: the walk. Conditions: fewer than 256 names, each of twenty bytes. -/
import Derived.Test.YtjiiploleinobaaSrtO
import Derived.Test.YtjiiploleinobaaOidK
namespace Go.Proofs.Ytjiiploleinobaa
open Go.RowKit
set_option maxRecDepth 100000
set_option maxHeartbeats 8000000
set_option linter.unusedVariables false
theorem compact_small (A : Option Addr) (n cap : Nat) (hn : n < 2) (w : World) : Calls Try.prog 33 #[.slice A n cap] w fun e w' => e = .returned (.slice A n cap) ∧ w = w' := by
  have z : (n : Int) < 2 := by omega
  go_enter Try.func33, Try.ntmps33
  go_wp2
  go_ret
  exact ⟨rfl, rfl⟩
theorem compact_any (g n cap : Nat) (hcap : n ≤ cap) (hn : n < 256) (h2 : 2 ≤ n) (d : Array (List UInt8)) (w : World) (h : Ids g w d) (hd : d.size = n) :
    Calls Try.prog 33 #[.slice (some ⟨g, 0, none⟩) n cap] w fun e w' => e = .returned (.slice (some ⟨g, 0, none⟩) (cmpt d.toList n).length cap) ∧ Ids g w' (cmpt d.toList n).toArray ∧ Kp (fun k => k = g) w w' := by
  have st0 := St.start (g := g) (n := n) w d h hd
  have hw0 : IntKind.i64.wrap 0 = 0 := rfl
  have hlenl : d.toList.length = n := by simpa using hd
  have HD := Lib.hid hd
  have HL := Lib.hid hlenl
  have HX := Lib.hid h.len
  clear h hd hlenl
  go_enter Try.func33, Try.ntmps33
  go_wp2
  go_loopw [3] (fun t3 wr => ∃ k : Nat, t3 = .int .i64 (k : Int) ∧ 1 ≤ k ∧ k ≤ n ∧ Hid (∀ j, 1 ≤ j → j < k → d[j]! ≠ d[j - 1]!) ∧ St (Ids g) g n w wr d) (fun t3 _ => (n - intOf t3).toNat)
  case atStart => exact ⟨1, rfl, by omega, by omega, Lib.hid (fun j h1 h2 => by omega), st0⟩
  case round =>
    clear st0
    obtain ⟨k, rfl, hk1, hk2, hne, hst⟩ := hrel
    by_cases hkn : k < n
    · have f1 := hst.drew.load k hkn (k * 20) rfl
      obtain ⟨m, hm⟩ : ∃ m, k = m + 1 := ⟨k - 1, by omega⟩
      have hmn : m < n := by omega
      have f0 := hst.drew.load m hmn (m * 20) rfl
      have F0 := Lib.hid f0; have F1 := Lib.hid f1
      obtain ⟨q, hq⟩ : ∃ q, decide (d[k]! = d[m]!) = q := ⟨_, rfl⟩
      have heq := eqlIn_run 23 Try.underlying23 d[k]! d[m]! (HX.out k (by rw [HD.out]; exact hkn)) (HX.out m (by rw [HD.out]; exact hmn)) wr.drew
      rw [hq] at heq
      have HQ := Lib.hid hq
      have hwk : IntKind.i64.wrap ((k : Int) - 1) = (m : Int) := by rw [IntWalk.i64_in _ (by omega)]; omega
      have HM := Lib.hid hm
      clear hm
      clear f0 f1 hq
      cases q with
      | false =>
        go_wp2
        refine wp_region_still_tail 9 (by kernel_rfl) (by kernel_rfl) ?_
        simp only [List.take_succ_cons, List.take_zero, List.drop_succ_cons, List.drop_zero]
        repeat still_step
        refine wpStill_load_agg rfl 23 (.tmp 18) rfl _ rfl _ F1.out ?_
        repeat still_step
        refine wpStill_load_agg rfl 23 (.tmp 23) rfl _ rfl _ F0.out ?_
        repeat still_step
        refine wpStill_nil ?_
        change wpList _ _ _ _ _ wr.drew
        go_wp2
        go_roundw
        case rel => exact ⟨k + 1, by simp, by omega, by omega, Lib.hid (fun j h1 h2 => by
          by_cases e : j = k
          · subst e; rw [show j - 1 = m by have := HM.out; omega]; exact of_decide_eq_false HQ.out
          · exact hne.out j h1 (by omega)), hst.drew⟩
        case measure => simp only [intOf]; omega
      | true =>
        have hcut : cap ≠ k := by omega
        go_wp2
        refine wp_region_still_tail 9 (by kernel_rfl) (by kernel_rfl) ?_
        simp only [List.take_succ_cons, List.take_zero, List.drop_succ_cons, List.drop_zero]
        repeat still_step
        refine wpStill_load_agg rfl 23 (.tmp 18) rfl _ rfl _ F1.out ?_
        repeat still_step
        refine wpStill_load_agg rfl 23 (.tmp 23) rfl _ rfl _ F0.out ?_
        repeat still_step
        refine wpStill_nil ?_
        change wpList _ _ _ _ _ wr.drew
        have st1 := hst.drew
        have cm0 : Cmp d k 1 k d := by
          have e1 : cmpt d.toList k = d.toList.take k := cmpt_all d.toList k hk1 (by rw [HL.out]; omega) (fun j h1 h2 => by rw [td, td]; exact hne.out j h1 h2)
          have e : cmpt d.toList (k + 1) = d.toList.take k := by rw [cmpt_step _ _ hk1, td, td, if_pos (by rw [show k - 1 = m by have := HM.out; omega]; exact of_decide_eq_true HQ.out), e1]
          refine ⟨by rw [e, List.length_take, HL.out]; omega, by omega, fun p hp => ?_, fun _ _ _ => rfl⟩
          rw [e, ← td, List.getD_eq_getElem?_getD, List.getD_eq_getElem?_getD, List.getElem?_take_of_lt hp]
        have KW := Lib.hid st1.kp
        generalize wr.drew = ws at st1 heq KW ⊢
        have CM := Lib.hid cm0
        clear hst F0 F1 cm0 HQ hne
        go_upto_block 2 with (fail)
        clear heq
        obtain ⟨r, hr⟩ : ∃ r, n - k = r := ⟨_, rfl⟩
        obtain ⟨c2, hc2⟩ : ∃ c2, cap - k = c2 := ⟨_, rfl⟩
        have hrn : k + r = n := by omega
        have hrc : r ≤ c2 := by omega
        simp only [hr, hc2]
        clear hr hc2
        go_wp2_with fail
        go_loopw [3, 5] (fun t3 t5 wq => ∃ (j i : Nat) (D : Array (List UInt8)), t3 = .int .i64 (j : Int) ∧ t5 = .int .i64 (i : Int) ∧ 1 ≤ i ∧ i ≤ r ∧ Hid (Cmp d k i j D) ∧ St (Ids g) g n ws wq D) (fun _ t5 _ => (n - intOf t5).toNat)
        case atStart => exact ⟨k, 1, d, rfl, rfl, by omega, by omega, CM, St.start _ _ st1.holds st1.size⟩
        case round =>
          clear st1 CM
          obtain ⟨j, i, D, rfl, rfl, hi1, hi2, HC, hst⟩ := hrel
          have hjl := HC.out.le
          by_cases hir : i < r
          · obtain ⟨m2, hm2⟩ : ∃ m2, i = m2 + 1 := ⟨i - 1, by omega⟩
            have hm2r : m2 < r := by omega
            have hw2 : IntKind.i64.wrap ((i : Int) - 1) = (m2 : Int) := by rw [IntWalk.i64_in _ (by omega)]; omega
            have f1 := hst.drew.load (k + i) (by omega) (k * 20 + i * 20) (by omega)
            rw [HC.out.back (k + i) (by omega) (by rw [HD.out]; omega)] at f1
            have f0 := hst.drew.load (k + m2) (by omega) (k * 20 + m2 * 20) (by omega)
            rw [HC.out.back (k + m2) (by omega) (by rw [HD.out]; omega)] at f0
            have l1 : d[k + i]!.length = 20 := HX.out _ (by rw [HD.out]; omega)
            have l0 : d[k + m2]!.length = 20 := HX.out _ (by rw [HD.out]; omega)
            obtain ⟨q, hq⟩ : ∃ q, decide (d[k + i]! = d[k + m2]!) = q := ⟨_, rfl⟩
            have heq := eqlIn_run 23 Try.underlying23 d[k + i]! d[k + m2]! l1 l0 wr.drew
            rw [hq] at heq
            have HQ := Lib.hid hq; have F0 := Lib.hid f0; have F1 := Lib.hid f1; have L1 := Lib.hid l1; have HM2 := Lib.hid hm2
            have hdr := hst.drew
            clear hq f0 f1 l0 l1 hm2
            cases q with
            | true =>
              go_wp2
              refine wp_region_still_tail 9 (by kernel_rfl) (by kernel_rfl) ?_
              simp only [List.take_succ_cons, List.take_zero, List.drop_succ_cons, List.drop_zero]
              repeat still_step
              refine wpStill_load_agg rfl 23 (.tmp 37) rfl _ rfl _ F1.out ?_
              repeat still_step
              refine wpStill_load_agg rfl 23 (.tmp 42) rfl _ rfl _ F0.out ?_
              repeat still_step
              refine wpStill_nil ?_
              change wpList _ _ _ _ _ wr.drew
              go_wp2
              go_roundw
              case rel => exact ⟨j, i + 1, D, rfl, by simp, by omega, by omega, Lib.hid (HC.out.same hk1 (by rw [HD.out]; omega) (by rw [show k + i - 1 = k + m2 by have := HM2.out; omega]; exact of_decide_eq_true HQ.out) hi1), hdr⟩
              case measure => simp only [intOf]; omega
            | false =>
              have hjn : j < n := by omega
              have t0 : wr.drew.there g (j * 20) (bvs d[k + i]!).toArray.size := by
                have := hdr.holds.thereAt j (by rw [hdr.size]; exact hjn)
                simpa [L1.out] using this
              have s0 := run_storeVar_mid (P := Try.prog) wr.drew g (j * 20) 23 (bvs d[k + i]!).toArray t0 (info23 _ L1.out) (one_bvs _)
              rw [List.toList_toArray] at s0
              have hput := hdr.holds.put j (by rw [hdr.size]; exact hjn) d[k + i]! L1.out
              have kput := Kp.trans hdr.kp (kp_setCells g (bvs d[k + i]!) (j * 20) wr.drew)
              have S0 := Lib.hid s0; have PU := Lib.hid hput; have KU := Lib.hid kput
              have SZ := Lib.hid hdr.size
              clear t0 s0 hput kput
              go_wp2
              refine wp_region_still_tail 9 (by kernel_rfl) (by kernel_rfl) ?_
              simp only [List.take_succ_cons, List.take_zero, List.drop_succ_cons, List.drop_zero]
              repeat still_step
              refine wpStill_load_agg rfl 23 (.tmp 37) rfl _ rfl _ F1.out ?_
              repeat still_step
              refine wpStill_load_agg rfl 23 (.tmp 42) rfl _ rfl _ F0.out ?_
              repeat still_step
              refine wpStill_nil ?_
              change wpList _ _ _ _ _ wr.drew
              go_wp2_with (first
                | (refine wpList_loadG 23 (.tmp 49) rfl ⟨g, k * 20 + i * 20, none⟩ rfl (idv d[k + i]!) F1.out rfl ?_)
                | (refine wpList_plain rfl fun KK hKK => ?_; refine wp_storeV 23 (.tmp 51) (.tmp 50) rfl ⟨g, j * 20, none⟩ (idv d[k + i]!) rfl rfl S0.out ?_; refine hKK _ _ ?_; clear hKK KK))
              go_roundw
              case rel => exact ⟨j + 1, i + 1, _, by simp, by simp, by omega, by omega, Lib.hid (HC.out.put (SZ.out.trans HD.out.symm) hk1 (by rw [HD.out]; omega) (by rw [show k + i - 1 = k + m2 by have := HM2.out; omega]; exact of_decide_eq_false HQ.out) hi1), ⟨PU.out, by rw [Array.size_setIfInBounds]; exact SZ.out, KU.out⟩⟩
              case measure => simp only [intOf]; omega
          · obtain rfl : i = r := by omega
            have hcj : cap ≠ j := by omega
            have hjn : j ≤ n := by omega
            obtain ⟨w2, vs, hrun, hw2⟩ := run_clear g (j * 20) (cap - j) (n - j) wr (hst.holds.thereFrom j (n - j) (by rw [hst.size]; omega))
            have hids : Ids g w2 (cmpt d.toList n).toArray := by
              rw [hw2]
              have hl : (cmpt d.toList n).toArray.size = j := by rw [List.size_toArray, ← hrn, ← HC.out.len]
              refine Ids.tail (hst.holds.front (by rw [hl, hst.size]; exact hjn) (fun p hp => ?_)) _ (by rw [hl]; exact Nat.le_refl _) vs
              rw [HC.out.front p (by omega), hrn, ← td]
            have hkp : Kp (fun k => k = g) ws w2 := by rw [hw2]; exact Kp.trans hst.kp (kp_setCells g vs (j * 20) wr)
            have hjl2 : (cmpt d.toList n).length = j := by rw [← hrn, ← HC.out.len]
            have HI := Lib.hid hids; have HK := Lib.hid hkp; have HJ := Lib.hid hjl2
            clear hids hkp hw2 hst HC hjl2
            go_wp2
            go_ret
            exact ⟨by rw [HJ.out]; rfl, HI.out, Kp.trans KW.out HK.out⟩
    · obtain rfl : k = n := by omega
      have e : cmpt d.toList k = d.toList := by
        rw [cmpt_all d.toList k (by omega) (by rw [HL.out]; exact Nat.le_refl _) (fun j h1 h2 => by rw [td, td]; exact hne.out j h1 h2), List.take_of_length_le (by rw [HL.out]; exact Nat.le_refl _)]
      have HE := Lib.hid e
      clear e
      go_wp2
      go_ret
      exact ⟨by rw [HE.out, HL.out]; rfl, by rw [HE.out]; simpa using hst.holds, hst.kp⟩
end Go.Proofs.Ytjiiploleinobaa
