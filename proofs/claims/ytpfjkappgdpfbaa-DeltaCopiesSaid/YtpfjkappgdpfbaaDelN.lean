/- delta.Print computes DelP's printR. Condition: the steps' bytes together are at most 2^39. -/
import Derived.Test.YtpfjkappgdpfbaaDelK
namespace Go.Proofs.Ytpfjkappgdpfbaa
open Go.RowKit
set_option maxRecDepth 100000
set_option maxHeartbeats 4000000
theorem clip72 (A : Option Addr) (n c : Nat) (h : n ≤ c) (w : World) : Calls Try.prog 45 #[.slice A n c] w fun e w' => e = .returned (.slice A n n) ∧ w = w' := by
  have hs := slice_clip Try.underlying72 Try.size5 A n c h
  go_enter Try.func45, Try.ntmps45
  go_wp2
  go_ret
  exact ⟨rfl, rfl⟩
theorem Bs.lt {w : World} {ad : Addr} {d : List UInt8} (h : Bs w (some ad) d) (hne : 0 < d.length) : ad.block < w.heap.size := by
  obtain ⟨ad', e, hc⟩ := Bs.at h hne
  injection e with e; subst e
  simpa [Addr.add] using World.block_lt_of_cell? w _ hc
theorem enc_len (o : DOp) (h : okOp o) : (enc o).length ≤ 128 := by
  unfold enc
  split
  · unfold encCopy
    have := encT_len o.fr.toNat (cutN o.n.toNat) 7
    simp; omega
  · rename_i hc
    unfold okOp at h
    rw [if_neg hc] at h
    simp; omega
theorem encs_len (l : List DOp) (h : ∀ o ∈ l, okOp o) : (encs l).length ≤ 128 * l.length := by
  induction l with
  | nil => simp [encs]
  | cons o l ih =>
    have h1 := enc_len o (h o (by simp))
    have h2 := ih (fun p hp => h p (by simp [hp]))
    simp only [encs, List.flatMap_cons, List.length_append, List.length_cons] at *
    omega
theorem print_any (base out : Int) (A : Option Addr) (c : Nat) (l : List DOp) (w : World) (hb : base < 9223372036854775808) (ho : out < 9223372036854775808) (hl : l.length ≤ 1073741824) (hA : OpsR w A l) :
    Calls Try.prog 26 #[.int .i64 base, .int .i64 out, .slice A l.length c] w (Out2 (printR base out l) w) := by
  have k1 := fun w' (hw' : Below w.heap.size w w') => containsFunc_any A c l w' (by omega) (hA.below hw')
  by_cases h1 : base < 0
  · have q1 : decide (base < 0) = true := decide_eq_true h1
    have hR : printR base out l = ([], 1) := if_pos (.inl h1)
    have HR := Lib.hid hR; clear hR
    go_enter Try.func26, Try.ntmps26
    go_wp2
    go_ret2
    exact ⟨.slice none 0 0, by rw [HR.out]; rfl, by rw [HR.out]; exact Win.nil _ _ _ _, Below.refl _ _⟩
  have q1 : decide (base < 0) = false := decide_eq_false h1
  by_cases h2 : out < 0
  · have q2 : decide (out < 0) = true := decide_eq_true h2
    have hR : printR base out l = ([], 1) := if_pos (.inr (.inl h2))
    have HR := Lib.hid hR; clear hR
    go_enter Try.func26, Try.ntmps26
    go_wp2
    go_ret2
    exact ⟨.slice none 0 0, by rw [HR.out]; rfl, by rw [HR.out]; exact Win.nil _ _ _ _, Below.refl _ _⟩
  have q2 : decide (out < 0) = false := decide_eq_false h2
  by_cases h3 : ∀ o ∈ l, okOp o
  · have hR : printR base out l = (putSize base.toNat ++ putSize out.toNat ++ encs l, 0) := if_neg (fun h => h.elim h1 (fun h => h.elim h2 (fun h => h h3)))
    rw [decide_eq_true h3] at k1
    have HR := Lib.hid hR; have H3 := Lib.hid h3; clear hR h3
    obtain ⟨bn, rfl⟩ : ∃ bn : Nat, base = bn := ⟨base.toNat, by omega⟩
    obtain ⟨on, rfl⟩ : ∃ on : Nat, out = on := ⟨out.toNat, by omega⟩
    have hp1 := putSize_len bn 9 (by omega) (by decide)
    have hp2 := putSize_len on 9 (by omega) (by decide)
    have k2 : ∀ w1 : World, Calls Try.prog 42 #[.slice none 0 0, .int .i64 bn] w1 (Out 5 (putSize bn) w1) := fun w1 => putSize_any none 0 [] bn (by omega) w1 (by simp) (Sl.nil _ _)
    go_enter Try.func26, Try.ntmps26
    go_wp2_with (first
      | (go_at_call 40; (with_reducible refine (k1 _ (Below.refl _ _)).mono ?_); rintro e w1 ⟨rfl, hb1⟩)
      | (go_at_call 42
         have tok := hb1
         (with_reducible refine (k2 w1).mono ?_); rintro e w2 ⟨v2, rfl, hw2, hb2⟩
         obtain ⟨A2, c2, rfl, _, _, hA2⟩ := WinB.readsN (n := (putSize bn).length) hw2 rfl
         have k3 := putSize_any A2 c2 (putSize bn) on (by omega) w2 (by omega) hA2
         have hB2 := hb1.trans (hb2.mono hb1.size)
         clear hb1)
      | (go_at_call 42
         (with_reducible refine k3.mono ?_); rintro e w3 ⟨v3, rfl, hw3, hb3⟩
         obtain ⟨A3, c3, rfl, _, _, _⟩ := WinB.readsN (n := (putSize bn).length + (putSize on).length) hw3 (by simp)))
    obtain ⟨v3, hv3⟩ : ∃ v3, v3 = Value.slice A3 ((putSize bn).length + (putSize on).length) c3 := ⟨_, rfl⟩
    rw [← hv3] at hw3 ⊢
    clear hv3
    have hB3 := hB2.trans (hb3.mono hB2.size)
    have hpl : (putSize bn ++ putSize on).length ≤ 18 := by rw [List.length_append]; omega
    obtain ⟨pre, hpre⟩ : ∃ pre, pre = putSize bn ++ putSize on := ⟨_, rfl⟩
    have hw3' : WinB w3 w.heap.size 5 v3 pre := by rw [hpre]; exact Win.base hw3 hB2.size
    rw [← hpre] at hpl
    have hR3 : printR bn on l = (pre ++ encs l, 0) := by rw [HR.out, hpre]; rfl
    have HR3 := Lib.hid hR3; have HW3 := Lib.hid hw3'
    clear hR3 hw3' hw3 hw2 hpre k1 k2 k3 hb2 hB2 hp1 hp2
    have hal : (w3.alloc (.cells #[v3] 72)).heap[w3.heap.size]? = some (.cells #[v3] 72 (0, 0)) := heap_alloc_new _ _
    have HAL := Lib.hid hal; clear hal
    go_loopw [27] (fun t27 wr => ∃ (k : Nat) (v : Value), t27 = .int .i64 k ∧ k ≤ l.length ∧ wr.heap[w3.heap.size]? = some (.cells #[v] 72 (0, 0)) ∧ WinB wr w.heap.size 5 v (pre ++ encs (l.take k)) ∧ ¬ v.ownBlock = some w3.heap.size ∧ Below w.heap.size w wr ∧ w3.heap.size < wr.heap.size) (fun t27 _ => l.length - (intOf t27).toNat)
    case atStart =>
      refine ⟨0, v3, rfl, by omega, HAL.out, ?_, fun e => absurd (Win.block HW3.out _ e).2 (by omega), hB3.alloc hB3.size _, by simp⟩
      have := Win.below HW3.out ((Below.refl _ _).alloc (Nat.le_refl _) (.cells #[v3] 72))
      simpa [encs] using this
    case round =>
      obtain ⟨k, v, rfl, hk, hrow, hwv, hvb, hb, hlt3⟩ := hrel
      have hel := encs_len (l.take k) (fun o ho => H3.out o (List.mem_of_mem_take ho))
      have hel2 : (l.take k).length = k := by simp; omega
      rw [hel2] at hel
      have hxl : (pre ++ encs (l.take k)).length ≤ 1000000000000 := by rw [List.length_append]; omega
      have HXL := Lib.hid hxl; have HROW := Lib.hid hrow; have HWV := Lib.hid hwv
      have hwb : ∀ g, v.ownBlock = some g → w.heap.size ≤ g := fun g hg => (Win.block hwv g hg).1
      have hB3s := hB3.size
      clear hxl hrow hwv hel hel2
      by_cases hlt : k < l.length
      · obtain ⟨ad, Ad, cd, rfl, hcells, hcd, hmd, hdata⟩ := hA k l[k] (by simp [hlt])
        have hok := H3.out l[k] (List.getElem_mem hlt)
        have htk : encs (l.take (k + 1)) = encs (l.take k) ++ enc l[k] := by unfold encs; rw [List.take_succ_eq_append_getElem hlt, List.flatMap_append]; simp
        obtain ⟨o, ho⟩ : ∃ o, o = l[k] := ⟨_, rfl⟩
        rw [← ho] at hcells hcd hdata hok htk
        have hcl := Lib.hid (hcells.below hb); have HDA := Lib.hid hdata; have HTK := Lib.hid htk
        clear hcells hdata htk ho
        have hbw : ∀ u, Below wr.heap.size wr (wr.alloc u) := fun u => (Below.refl _ _).alloc (Nat.le_refl _) u
        have fin : ∀ (u : Obj) (x' : List UInt8) (w5 : World), x' = pre ++ encs (l.take (k + 1)) → Wrote w.heap.size w3.heap.size 0 #[v] 72 v x' (wr.alloc u) w5 →
            ∃ v', w5.heap[w3.heap.size]? = some (.cells #[v'] 72 (0, 0)) ∧ WinB w5 w.heap.size 5 v' (pre ++ encs (l.take (k + 1))) ∧ ¬ v'.ownBlock = some w3.heap.size ∧ Below w.heap.size w w5 ∧ w3.heap.size < w5.heap.size := by
          intro u x' w5 hx' ⟨v', h1, h2, h3, h4⟩
          have hba := hb.alloc hb.size u
          refine ⟨v', h1, by rw [← hx']; exact h2, own_far hvb (by simp; omega) h4, hba.trans (h3.toBelow hba.size (fun g hg e => ?_)), Nat.lt_of_lt_of_le hlt3 (Nat.le_trans (by simp) h3.size)⟩
          rcases e with e | e
          · exact absurd (hwb g e) (by omega)
          · omega
        have FIN := Lib.hid fin; clear fin
        cases hcp : o.cp with
        | true =>
          obtain ⟨t1, t2, t3, t4, t5⟩ := (okOp_cp hcp).1 hok
          have ktk := take_any w.heap.size w3.heap.size 0 #[v] 72 v (pre ++ encs (l.take k)) o.fr.toNat o.n.toNat (wr.alloc (.cells #[.bool true, .int .i64 o.fr, .int .i64 o.n, .slice Ad o.data.length cd] 37)) ((((hbw _).block _ hlt3)).trans HROW.out) rfl (Win.below HWV.out (hbw _)) hvb (by have := HXL.out; omega) (by omega) (by omega) (by omega) (Nat.le_trans hb.size (by simp))
          rw [Int.toNat_of_nonneg (by omega), Int.toNat_of_nonneg (by omega)] at ktk
          have KTK := Lib.hid ktk; clear ktk
          go_wp2_with (first
            | (refine wpList_load_agg rfl 37 (.tmp 29) rfl (ad.add (k * 4)) rfl (opCells (.slice Ad o.data.length cd) o) _ hcl.out Try.underlying37 rfl (by kernel_rfl) ?_; rw [opCells_at, hcp])
            | (go_at_call 43; (with_reducible refine KTK.out.mono ?_); rintro e w5 ⟨rfl, hW5⟩; obtain ⟨v5, f1, f2, f3, f4, f5⟩ := FIN.out _ _ _ (by rw [HTK.out]; simp [enc, hcp]) hW5; clear hW5))
          go_roundw
          case rel => exact ⟨k + 1, v5, by go_num, by omega, f1, f2, f3, f4, f5⟩
          case measure => simp [intOf]; omega
        | false =>
          obtain ⟨t1, t2, t3, t4⟩ := (okOp_in hcp).1 hok
          have kpt := put_any w.heap.size w3.heap.size 0 #[v] 72 v (pre ++ encs (l.take k)) Ad cd o.data (wr.alloc (.cells #[.bool false, .int .i64 o.fr, .int .i64 o.n, .slice Ad o.data.length cd] 37)) ((((hbw _).block _ hlt3)).trans HROW.out) rfl (Win.below HWV.out (hbw _)) hvb (by have := HXL.out; omega) (by omega) ((HDA.out.below hb).below (hbw _))
            (fun ad e => by
              have hd2 := HDA.out
              rw [e] at hd2
              have := Bs.lt hd2 (by omega)
              exact ⟨by omega, fun h => absurd (hwb _ h) (by omega)⟩) (Nat.le_trans hb.size (by simp))
          have KPT := Lib.hid kpt; clear kpt t1 t2 t3 t4
          go_wp2_with (first
            | (refine wpList_load_agg rfl 37 (.tmp 29) rfl (ad.add (k * 4)) rfl (opCells (.slice Ad o.data.length cd) o) _ hcl.out Try.underlying37 rfl (by kernel_rfl) ?_; rw [opCells_at, hcp])
            | (go_at_call 44; (with_reducible refine KPT.out.mono ?_); rintro e w5 ⟨rfl, hW5⟩; obtain ⟨v5, f1, f2, f3, f4, f5⟩ := FIN.out _ _ _ (by rw [HTK.out]; simp [enc, hcp]) hW5; clear hW5))
          go_roundw
          case rel => exact ⟨k + 1, v5, by go_num, by omega, f1, f2, f3, f4, f5⟩
          case measure => simp [intOf]; omega
      · obtain rfl : k = l.length := by omega
        have hwf := HWV.out
        rw [List.take_length] at hwf
        obtain ⟨A4, c4, rfl, hc4, _, _⟩ := WinB.reads hwf
        have hcl4 : wr.cell? ⟨w3.heap.size, 0, none⟩ = some (.slice A4 (pre ++ encs l).length c4) := by rw [cell_of_row _ _ _ _ _ _ HROW.out]; rfl
        obtain ⟨m4, hm4⟩ : ∃ m4, m4 = (pre ++ encs l).length := ⟨_, rfl⟩
        rw [← hm4] at hcl4 hc4
        have HM4 := Lib.hid hm4
        have kc := clip72 A4 m4 c4 hc4 wr
        clear hm4
        go_wp2_with (go_at_call 45; (with_reducible refine kc.mono ?_); rintro e w' ⟨rfl, rfl⟩)
        go_ret2
        exact ⟨.slice A4 m4 m4, by rw [HR3.out]; rfl, by rw [HR3.out]; exact WinB.clip hwf HM4.out, hb⟩
  · have hR : printR base out l = ([], 1) := if_pos (.inr (.inr h3))
    rw [decide_eq_false h3] at k1
    have HR := Lib.hid hR; clear hR h3
    go_enter Try.func26, Try.ntmps26
    go_wp2_with (go_at_call 40; (with_reducible refine (k1 _ (Below.refl _ _)).mono ?_); rintro e w1 ⟨rfl, hb1⟩)
    go_ret2
    exact ⟨.slice none 0 0, by rw [HR.out]; rfl, by rw [HR.out]; exact Win.nil _ _ _ _, hb1⟩
end Go.Proofs.Ytpfjkappgdpfbaa
