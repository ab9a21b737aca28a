/- SHA-1 as the program reckons it: bytes put one by one, a twin, the sum. Conditions: at most 2^40 bytes; the hash lies in a block of its own. -/
import Derived.Test.YtmfhlhjnfaiegaaDoorShaB
import Derived.Test.YtmfhlhjnfaiegaaDoorBinA
import Derived.Test.YtmfhlhjnfaiegaaDoorOidD
namespace Go.Proofs.YtmfhlhjnfaiegaaDoor
open Go.RowKit
set_option maxRecDepth 100000
set_option maxHeartbeats 4000000
set_option linter.unusedVariables false
/-- the hash's memory -/
abbrev HRow (w : World) (g : Nat) (h : Hs) : Prop := w.heap[g]? = some (.cells (hcells h).toArray 107 (0, 0))
theorem hcells_n (h : Hs) (ok : h.Ok) : (hcells h).toArray[69]? = some (.int .i64 (h.n : Int)) := by
  have hl : (wv h.words.toL).length = 5 := rfl
  simp only [hcells, List.getElem?_toArray]
  rw [List.getElem?_append_right (by rw [hl]; decide), hl, List.getElem?_append_right (by rw [bvs_length, ok.rest]; decide), bvs_length, ok.rest]
  rfl
theorem hcells_rest (h : Hs) (ok : h.Ok) (r : Nat) (hr : r < 64) : (hcells h).toArray[5 + r]? = some (.int .u8 ((h.rest.getD r 0).toNat : Int)) := by
  have hl : (wv h.words.toL).length = 5 := rfl
  simp only [hcells, List.getElem?_toArray]
  rw [List.getElem?_append_right (by rw [hl]; omega), hl, List.getElem?_append_left (by rw [bvs_length, ok.rest]; omega), show 5 + r - 5 = r by omega]
  simp [bvs, bv, ok.rest, hr]
theorem hcells_setR (h : Hs) (ok : h.Ok) (r : Nat) (hr : r < 64) (c : UInt8) : (hcells h).toArray.setIfInBounds (5 + r) (.int .u8 (c.toNat : Int)) = (hcells ⟨h.words, h.rest.set r c, h.n⟩).toArray := by
  apply Array.ext'
  have hl : (wv h.words.toL).length = 5 := rfl
  simp only [Array.toList_setIfInBounds, hcells]
  rw [List.set_append_right _ _ (by rw [hl]; omega), hl, List.set_append_left _ _ (by rw [bvs_length, ok.rest]; omega), show 5 + r - 5 = r by omega]
  simp [bvs, bv, List.map_set]
theorem hcells_setN (h : Hs) (ok : h.Ok) (m : Nat) : (hcells h).toArray.setIfInBounds 69 (.int .i64 (m : Int)) = (hcells ⟨h.words, h.rest, m⟩).toArray := by
  apply Array.ext'
  have hl : (wv h.words.toL).length = 5 := rfl
  simp only [Array.toList_setIfInBounds, hcells]
  rw [List.set_append_right _ _ (by rw [hl]; omega), hl, List.set_append_right _ _ (by rw [bvs_length, ok.rest]; omega), bvs_length, ok.rest]
  rfl
theorem hcells_size (h : Hs) (ok : h.Ok) : (hcells h).toArray.size = 70 := by
  have hl : (wv h.words.toL).length = 5 := rfl
  simp [hcells, ok.rest, hl]
theorem hcells_one (h : Hs) : (hcells h).toArray.all (·.oneCell') = true := by
  rw [Array.all_eq_true]
  intro i hi
  have : ∀ v ∈ hcells h, v.oneCell' = true := fun v hv => by
    rcases List.mem_append.1 hv with hv | hv
    · obtain ⟨n, _, rfl⟩ := List.mem_map.1 hv; rfl
    · rcases List.mem_append.1 hv with hv | hv
      · exact bvs_one _ v hv
      · simp at hv; subst hv; rfl
  exact this _ (by simp)
theorem new_any (w : World) : Calls Tryd.prog 53 #[] w fun e w' => e = .returned (.pointer (some ⟨w.heap.size, 0, none⟩)) ∧ HRow w' w.heap.size hs0 ∧ Below w.heap.size w w' := by
  go_enter Tryd.func53, Tryd.ntmps53
  go_wp2
  go_ret
  refine ⟨rfl, ?_, (Below.refl _ _).alloc (Nat.le_refl _) _⟩
  refine (heap_alloc_new _ _).trans ?_
  congr 2
theorem twin_any (g : Nat) (h : Hs) (ok : h.Ok) (w : World) (hg : HRow w g h) : Calls Tryd.prog 67 #[.pointer (some ⟨g, 0, none⟩)] w fun e w' => e = .returned (.pointer (some ⟨w.heap.size, 0, none⟩)) ∧ HRow w' w.heap.size h ∧ Below w.heap.size w w' := by
  have zi : (Tryd.prog.info? 107).map (·.size) = some (hcells h).toArray.size := by rw [hcells_size h ok]; kernel_rfl
  have HG := Lib.hid hg; have ZI := Lib.hid zi
  clear hg zi
  go_enter Tryd.func67, Tryd.ntmps67
  go_wp2_with (first
    | (refine wpList_load_row rfl 107 (.tmp 5) rfl g rfl 107 (hcells h).toArray (0, 0) _ HG.out Tryd.underlying107 rfl ZI.out ?_)
    | (refine wpList_store_row rfl 107 (.tmp 3) (.tmp 6) rfl w.heap.size (hcells h).toArray rfl rfl 107 _ (heap_alloc_new _ _) ZI.out (by rw [hcells_size h ok]; kernel_rfl) (hcells_one h) ?_))
  go_ret
  exact ⟨rfl, new_set w 107 _ _⟩
theorem write_any (g : Nat) (h : Hs) (ok : h.Ok) (A : Option Addr) (c : Nat) (l : List UInt8) (hl : l.length ≤ 1099511627776) (hn : h.n ≤ 1099511627776) (w : World) (hg : HRow w g h) (hA : Bs w A l) (hne : ∀ ad, A = some ad → l ≠ [] → ad.block ≠ g) :
    Calls Tryd.prog 54 #[.pointer (some ⟨g, 0, none⟩), .slice A l.length c] w fun e w' => e = .returned (.tuple #[]) ∧ HRow w' g (putL h l) ∧ Kp (fun k => k = g) w w' := by
  obtain ⟨n, hnn⟩ : ∃ n, n = l.length := ⟨_, rfl⟩
  rw [← hnn]
  have hl2 : n ≤ 1099511627776 := by omega
  have HN := Lib.hid hnn; have HA := Lib.hid hA; have HNE := Lib.hid hne; have HG := Lib.hid hg
  have hgl : g < w.heap.size := (Array.getElem?_eq_some_iff.1 hg).1
  clear hnn hA hne hg hl
  go_enter Tryd.func54, Tryd.ntmps54
  go_wp2
  go_loopw [8] (fun t8 wr => ∃ i : Nat, t8 = .int .i64 (i : Int) ∧ i ≤ n ∧ Hid (HRow wr g (putL h (l.take i))) ∧ Kp (fun k => k = g) w wr) (fun t8 _ => (n - intOf t8).toNat)
  case atStart => exact ⟨0, rfl, by omega, HG, Kp.refl _ _⟩
  case round =>
    obtain ⟨i, rfl, hi, R, hkp⟩ := hrel
    by_cases hin : i < n
    · have hil : i < l.length := by rw [← HN.out]; exact hin
      obtain ⟨ad, e0, hc⟩ := Bs.at (Sl.kp HA.out hkp (fun ad e => HNE.out ad e (fun e2 => by rw [e2] at hil; simp at hil))) hil
      subst e0
      have hput := putL_snoc h l i hil
      have okq := putL_ok (l.take i) ok
      have hqn := putL_n (l.take i) h
      rw [List.length_take_of_le (by omega)] at hqn
      obtain ⟨q, hq⟩ : ∃ q, q = putL h (l.take i) := ⟨_, rfl⟩
      rw [← hq] at hput okq hqn
      have R1 := R.out
      rw [← hq] at R1
      obtain ⟨x, hx⟩ : ∃ x, x = l[i] := ⟨_, rfl⟩
      rw [← hx] at hput hc
      have HPUT := Lib.hid hput
      obtain ⟨m, hm⟩ : ∃ m, m = q.n := ⟨_, rfl⟩
      have hm2 : m ≤ 2199023255552 := by omega
      obtain ⟨r, hr⟩ : ∃ r, r = m % 64 := ⟨_, rfl⟩
      have hr64 : r < 64 := by omega
      have hri : (m : Int) % 64 = (r : Int) := by omega
      have hrt : (m : Int).tmod 64 = (r : Int) := by rw [Int.tmod_eq_emod_of_nonneg (by omega)]; exact hri
      have hrl : (r : Int) < 64 := by omega
      have c69 : wr.cell? ⟨g, 69, none⟩ = some (.int .i64 (m : Int)) := by
        rw [cell_of_row _ _ _ _ _ _ R1, hm]
        exact hcells_n q okq
      have c5 : wr.cell? ⟨g, 5 + r, none⟩ = some (.int .u8 ((q.rest.getD r 0).toNat : Int)) := by
        rw [cell_of_row _ _ _ _ _ _ R1]
        exact hcells_rest q okq r hr64
      have hfz : wr.frozen? ⟨g, 5 + r, none⟩ = false := frozen_of_row _ _ _ _ _ R1
      generalize ((q.rest.getD r 0).toNat : Int) = z at c5
      have R1 := Lib.hid R1; have HR := Lib.hid hr; have HM := Lib.hid hm; have OKQ := Lib.hid okq; have HQN := Lib.hid hqn
      clear hput hq hx hm hr okq R hqn
      go_upto_region 3 with fail
      clear hc
      refine wp_region_still_tail 10 (by kernel_rfl) (by kernel_rfl) ?_
      simp only [List.take_succ_cons, List.take_zero, List.drop_succ_cons, List.drop_zero]
      repeat still_step
      refine wpStill_nil ?_
      change wpList _ _ _ _ _ wr.drew
      have q1set := (heap_setCell_same wr g (5 + r) _ _ (.int .u8 (x.toNat : Int)) R1.out).trans (by rw [hcells_setR q OKQ.out r hr64])
      have Q1 := Lib.hid q1set
      clear q1set
      go_upto_region 4 with fail
      obtain ⟨W1, hW1⟩ : ∃ W1, W1 = (wr.setCell ⟨g, 5 + r, none⟩ (.int .u8 (x.toNat : Int))).drew := ⟨_, rfl⟩
      have q1 : HRow W1 g ⟨q.words, q.rest.set r x, q.n⟩ := by rw [hW1]; exact Q1.out
      have k1 : Kp (fun k => k = g) w W1 := by rw [hW1]; exact Kp.drew (hkp.setCell (.inl rfl) _)
      rw [← hW1]
      have ok1 : Hs.Ok ⟨q.words, q.rest.set r x, q.n⟩ := ⟨OKQ.out.words, by rw [List.length_set]; exact OKQ.out.rest⟩
      obtain ⟨m1, hm1⟩ : ∃ m1, m1 = m + 1 := ⟨_, rfl⟩
      have hadd : (m : Int) + 1 = (m1 : Int) := by omega
      have c69 : W1.cell? ⟨g, 69, none⟩ = some (.int .i64 (m : Int)) := by
        rw [cell_of_row _ _ _ _ _ _ q1, HM.out]
        exact hcells_n _ ok1
      have f69 : W1.frozen? ⟨g, 69, none⟩ = false := frozen_of_row _ _ _ _ _ q1
      have q2 := (heap_setCell_same W1 g 69 _ _ (.int .i64 (m1 : Int)) q1).trans (by rw [hcells_setN _ ok1 m1])
      have Q2 := Lib.hid q2
      have k2 := k1.setCell (p := ⟨g, 69, none⟩) (.inl rfl) (.int .i64 (m1 : Int))
      have HM1 := Lib.hid hm1
      have ok2 : Hs.Ok ⟨q.words, q.rest.set r x, m1⟩ := ⟨ok1.words, ok1.rest⟩
      have m1b : m1 ≤ 2199023255553 := by omega
      clear hW1 q1 q2 k1 Q1 R1 hm1 hkp c5 hrt hri hfz
      go_upto_region 5 with fail
      clear c69 f69 hadd
      obtain ⟨W2, hW2⟩ : ∃ W2, W2 = W1.setCell ⟨g, 69, none⟩ (.int .i64 (m1 : Int)) := ⟨_, rfl⟩
      rw [← hW2] at k2 ⊢
      have q2 : HRow W2 g ⟨q.words, q.rest.set r x, m1⟩ := by rw [hW2]; exact Q2.out
      have c69 : W2.cell? ⟨g, 69, none⟩ = some (.int .i64 (m1 : Int)) := by
        rw [cell_of_row _ _ _ _ _ _ q2]
        exact hcells_n _ ok2
      have QQ := Lib.hid q2
      clear hW2 q2 Q2
      by_cases hz : m1 % 64 = 0
      · have hzi : ((m1 : Int) % 64) = 0 := by omega
        have hfin : putL h (l.take (i + 1)) = ⟨blk q.words (q.rest.set r x), q.rest.set r x, m1⟩ := by
          rw [HPUT.out]
          unfold put1
          rw [← HM.out, ← HR.out, ← HM1.out, if_pos hz]
        have ke := eat_any g _ ok2 (q.rest.set r x) ok2.rest W2 QQ.out
        have sr : Sl W2 (some ⟨g, 5, none⟩) (bvs (q.rest.set r x)) := Sl.of_block QQ.out (fun j v hj => by
          have hj2 : j < 64 := by
            have := (List.getElem?_eq_some_iff.1 hj).1
            rw [bvs_length, ok2.rest] at this
            exact this
          rw [hcells_rest _ ok2 j hj2]
          have hj3 : j < (q.rest.set r x).length := by rw [ok2.rest]; exact hj2
          simp only [bvs, List.getElem?_map, List.getElem?_eq_getElem hj3, Option.map_some, Option.some.injEq] at hj
          rw [← hj, List.getD_eq_getElem?_getD, List.getElem?_eq_getElem hj3]
          rfl)
        have zs : (Tryd.prog.info? 105).map (·.size) = some (bvs (q.rest.set r x)).length := by rw [bvs_length, ok2.rest]; kernel_rfl
        have HZ := Lib.hid hz; have HF := Lib.hid hfin; have SR := Lib.hid sr; have ZS := Lib.hid zs; have KE := Lib.hid ke
        clear hz hfin sr zs ke
        go_wp2_with (first
          | (refine wpList_load_agg rfl 105 (.tmp 38) rfl ⟨g, 5, none⟩ rfl (bvs (q.rest.set r x)) _ SR.out Tryd.underlying105 rfl ZS.out ?_)
          | (go_at_call 66; (with_reducible refine KE.out.mono ?_); rintro e w3 ⟨rfl, hq3, hk3⟩))
        go_roundw
        case rel => exact ⟨i + 1, by simp, by omega, Lib.hid (by rw [HF.out]; exact hq3), k2.step hk3 (fun j _ h => h)⟩
        case measure => simp only [intOf]; omega
      · have hzi : ¬ ((m1 : Int) % 64) = 0 := by omega
        have hzb : (((m1 : Int) % 64) == 0) = false := beq_eq_false_iff_ne.2 hzi
        have hfin : putL h (l.take (i + 1)) = ⟨q.words, q.rest.set r x, m1⟩ := by
          rw [HPUT.out]
          unfold put1
          rw [← HM.out, ← HR.out, ← HM1.out, if_neg hz]
        have HF := Lib.hid hfin
        clear hfin hz
        go_wp2
        go_roundw
        case rel => exact ⟨i + 1, by simp, by omega, Lib.hid (by rw [HF.out]; exact QQ.out), k2⟩
        case measure => simp only [intOf]; omega
    · obtain rfl : i = n := by omega
      have r := R.out
      rw [List.take_of_length_le (by rw [← HN.out]; exact Nat.le_refl _)] at r
      have RR := Lib.hid r
      clear r R
      go_wp2
      go_end0
      exact ⟨rfl, RR.out, hkp⟩
end Go.Proofs.YtmfhlhjnfaiegaaDoor
