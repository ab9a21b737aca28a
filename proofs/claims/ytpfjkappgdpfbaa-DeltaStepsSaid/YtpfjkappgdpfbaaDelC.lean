/- The maker's state in memory; flush and copies write DelM's inserts and copies. Condition: lists have at most 2^39 bytes. -/
import Derived.Test.YtpfjkappgdpfbaaDelM
import Derived.Test.YtpfjkappgdpfbaaDelN
import Derived.StillTailTactics
import Derived.Deep.CutBlock
namespace Go.Proofs.Ytpfjkappgdpfbaa
set_option linter.unusedVariables false
open Go.RowKit
set_option maxRecDepth 100000
set_option maxHeartbeats 4000000
/-- a maker: what it has written reads as x, what waits as y; F: blocks that are not the lists' -/
def Mk (B mb : Nat) (F : Nat → Prop) (vb vm : Value) (x y : List UInt8) (w : World) : Prop :=
  ∃ vo vw, w.heap[mb]? = some (.cells #[vb, vm, vo, vw] 86 (0, 0)) ∧ WinB w B 5 vo x ∧ WinB w B 5 vw y ∧ (¬ vo.ownBlock = some mb) ∧ (¬ vw.ownBlock = some mb) ∧
    (∀ g, vo.ownBlock = some g → ¬ vw.ownBlock = some g) ∧ (∀ g, vo.ownBlock = some g → ¬ F g) ∧ (∀ g, vw.ownBlock = some g → ¬ F g)
/-- what a maker's function may change -/
abbrev Kq (B : Nat) (F : Nat → Prop) (w w' : World) : Prop := Kp (fun k => B ≤ k ∧ ¬ F k) w w'
theorem Mk.below {B mb : Nat} {F : Nat → Prop} {vb vm : Value} {x y : List UInt8} {w w' : World} (h : Mk B mb F vb vm x y w) (hb : Below w.heap.size w w') : Mk B mb F vb vm x y w' := by
  obtain ⟨vo, vw, h1, h2, h3, h4⟩ := h
  exact ⟨vo, vw, (hb.block mb (Array.getElem?_eq_some_iff.1 h1).1).trans h1, Win.below h2 hb, Win.below h3 hb, h4⟩
theorem cutA_own (A : Option Addr) (c k n : Nat) : (Value.slice (cutA A c k 1) (n - k) (c - k)).ownBlock = (Value.slice A n c).ownBlock := by
  unfold cutA
  split
  · cases A <;> rfl
  · cases A with
    | none => rfl
    | some ad =>
      show some (ad.add (k * 1)).block = some ad.block
      unfold Addr.add
      split <;> rfl
/-- the list that was written has become another one -/
theorem Mk.wrote {B mb : Nat} {F : Nat → Prop} {vb vm vo vw : Value} {x x' y : List UInt8} {w w' : World} (hmb : B ≤ mb) (hFm : ¬ F mb) (hF : ∀ g, F g → g < w.heap.size) (h1 : w.heap[mb]? = some (.cells #[vb, vm, vo, vw] 86 (0, 0)))
    (h2 : WinB w B 5 vo x) (h3 : WinB w B 5 vw y) (h4 : ¬ vo.ownBlock = some mb) (h5 : ¬ vw.ownBlock = some mb) (h6 : ∀ g, vo.ownBlock = some g → ¬ vw.ownBlock = some g) (h7 : ∀ g, vo.ownBlock = some g → ¬ F g) (h8 : ∀ g, vw.ownBlock = some g → ¬ F g)
    (hW : Wrote B mb 2 #[vb, vm, vo, vw] 86 vo x' w w') :
    ∃ vo', w'.heap[mb]? = some (.cells #[vb, vm, vo', vw] 86 (0, 0)) ∧ WinB w' B 5 vo' x' ∧ WinB w' B 5 vw y ∧ (¬ vo'.ownBlock = some mb) ∧ (∀ g, vo'.ownBlock = some g → ¬ vw.ownBlock = some g) ∧ (∀ g, vo'.ownBlock = some g → ¬ F g) ∧ Kq B F w w' := by
  obtain ⟨vo', e1, e2, e3, e4⟩ := hW
  have hml : mb < w.heap.size := (Array.getElem?_eq_some_iff.1 h1).1
  refine ⟨vo', by simpa using e1, e2, Win.kp h3 e3 (fun g hg h => ?_), ?_, ?_, ?_, e3.mono (fun k h => ?_)⟩
  · rcases h with h | h
    · exact h6 g h hg
    · subst h; exact h5 hg
  · exact own_far h4 hml e4
  · intro g hg
    rcases e4 with e | ⟨k, e, hk⟩
    · rw [e] at hg; exact h6 g hg
    · rw [e] at hg; injection hg with hg; subst hg
      intro h
      have := (Win.block h3 k h).2
      omega
  · intro g hg
    rcases e4 with e | ⟨k, e, hk⟩
    · rw [e] at hg; exact h7 g hg
    · rw [e] at hg; injection hg with hg; subst hg
      intro h
      have := hF k h
      omega
  · rcases h with h | h
    · exact ⟨(Win.block h2 k h).1, h7 k h⟩
    · subst h; exact ⟨hmb, hFm⟩
theorem copies_any (B mb : Nat) (F : Nat → Prop) (vb vm : Value) (x y : List UInt8) (fr n : Nat) (w : World) (hmb : B ≤ mb) (hFm : ¬ F mb) (hF : ∀ g, F g → g < w.heap.size) (hBw : B ≤ w.heap.size) (hM : Mk B mb F vb vm x y w)
    (hx : x.length ≤ 549755813888) (hfn : fr + n ≤ 4294967295) :
    Calls Try.prog 55 #[.pointer (some ⟨mb, 0, none⟩), .int .i64 fr, .int .i64 n] w fun e w' => e = .returned (.tuple #[]) ∧ Mk B mb F vb vm (x ++ encs (cps fr n)) y w' ∧ Kq B F w w' := by
  go_enter Try.func55, Try.ntmps55
  go_wp2
  go_loopw [1, 2] (fun t1 t2 wr => ∃ (f k : Nat) (x' : List UInt8), t1 = .int .i64 f ∧ t2 = .int .i64 k ∧ f + k = fr + n ∧ x'.length ≤ x.length + 8 * (f - fr) ∧ fr ≤ f ∧ x' ++ encs (cps f k) = x ++ encs (cps fr n) ∧ Mk B mb F vb vm x' y wr ∧ Kq B F w wr) (fun _ t2 _ => (intOf t2).toNat)
  case atStart => exact ⟨fr, n, x, rfl, rfl, rfl, by omega, by omega, rfl, hM, Kp.refl _ _⟩
  case round =>
    obtain ⟨f, k, x', rfl, rfl, hs, hxl, hff, hx', ⟨vo, vw, h1, h2, h3, h4, h5, h6, h7, h8⟩, hk⟩ := hrel
    have HX := Lib.hid hx'; clear hx'
    by_cases hk0 : 0 < k
    · by_cases hbig : k ≤ 65536
      · have hcp := cps_pos (fr := f) hk0
        rw [show min k 65536 = k by omega] at hcp
        have HCP := Lib.hid hcp; clear hcp
        have kt := take_any B mb 2 #[vb, vm, vo, vw] 86 vo x' f k wr h1 rfl h2 h4 (by omega) (by omega) hk0 (by omega) (Nat.le_trans hBw hk.size)
        have KT := Lib.hid kt; clear kt
        have FIN := Lib.hid (fun w' => Mk.wrote (w' := w') (x' := x' ++ encCopy f k) hmb hFm (fun g hg => Nat.lt_of_lt_of_le (hF g hg) hk.size) h1 h2 h3 h4 h5 h6 h7 h8)
        clear h1 h2 h3 h4 h6 h7
        go_wp2_with (go_at_call 43; (with_reducible refine KT.out.mono ?_); rintro e w5 ⟨rfl, hW5⟩; obtain ⟨vo5, f1, f2, f3, f4, f6, f7, hk5⟩ := FIN.out _ hW5; clear hW5)
        go_roundw
        case rel =>
          refine ⟨f + k, 0, x' ++ encCopy f k, by go_num, by go_num, by omega, ?_, by omega, ?_, ⟨vo5, vw, f1, f2, f3, f4, h5, f6, f7, h8⟩, hk.trans hk5⟩
          · have := encT_len f (cutN k) 7
            simp [encCopy]; omega
          · rw [← HX.out, HCP.out, encs_cons, List.append_assoc]
            simp [enc]
        case measure => simp [intOf]; omega
      · have hcp := cps_pos (fr := f) hk0
        rw [show min k 65536 = 65536 by omega] at hcp
        have HCP := Lib.hid hcp; clear hcp
        have kt := take_any B mb 2 #[vb, vm, vo, vw] 86 vo x' f 65536 wr h1 rfl h2 h4 (by omega) (by omega) (by omega) (by omega) (Nat.le_trans hBw hk.size)
        rw [show ((65536 : Nat) : Int) = 65536 from rfl] at kt
        have KT := Lib.hid kt; clear kt
        have FIN := Lib.hid (fun w' => Mk.wrote (w' := w') (x' := x' ++ encCopy f 65536) hmb hFm (fun g hg => Nat.lt_of_lt_of_le (hF g hg) hk.size) h1 h2 h3 h4 h5 h6 h7 h8)
        clear h1 h2 h3 h4 h6 h7
        go_wp2_with (go_at_call 43; (with_reducible refine KT.out.mono ?_); rintro e w5 ⟨rfl, hW5⟩; obtain ⟨vo5, f1, f2, f3, f4, f6, f7, hk5⟩ := FIN.out _ hW5; clear hW5)
        go_roundw
        case rel =>
          refine ⟨f + 65536, k - 65536, x' ++ encCopy f 65536, by go_num, by go_num, by omega, ?_, by omega, ?_, ⟨vo5, vw, f1, f2, f3, f4, h5, f6, f7, h8⟩, hk.trans hk5⟩
          · have := encT_len f (cutN 65536) 7
            simp [encCopy]; omega
          · rw [← HX.out, HCP.out, encs_cons, List.append_assoc]
            simp [enc]
        case measure => simp [intOf]; omega
    · obtain rfl : k = 0 := by omega
      have e0 : x' = x ++ encs (cps fr n) := by rw [← HX.out, cps_zero, encs_nil, List.append_nil]
      have E0 := Lib.hid e0; clear e0
      go_wp2
      go_end0
      exact ⟨rfl, by rw [← E0.out]; exact ⟨vo, vw, h1, h2, h3, h4, h5, h6, h7, h8⟩, hk⟩
theorem slice_to22 (A : Option Addr) (n c k : Nat) (h : k ≤ c) (w : World) :
    (Instr.slice 22 (.slice A n c) none (some (.int .i64 k)) none).run Try.prog w = .ok (.slice A k c) w := by
  rw [run_slice_h (P := Try.prog) (t := 22) (a := A) (len := n) (cap := c) (ht := Try.underlying22) (kh := .i64) (h := (k : Int)) (h0 := by omega) (h2 := by omega), Try.one22]
  simp only [Result.andThen, sliced]
  have := cutA_zero A c 1
  unfold cutA at this
  simp only [Int.toNat_natCast, Nat.sub_zero]
  rw [this]
def waits (mb : Nat) (w : World) : Nat := match w.cell? ⟨mb, 3, none⟩ with
  | some (.slice _ n _) => n
  | _ => 0
theorem waits_is {mb n c : Nat} {A : Option Addr} {w : World} (h : w.cell? ⟨mb, 3, none⟩ = some (.slice A n c)) : waits mb w = n := by unfold waits; rw [h]
theorem flush_any (B mb : Nat) (F : Nat → Prop) (vb vm : Value) (x y : List UInt8) (w : World) (hmb : B ≤ mb) (hFm : ¬ F mb) (hF : ∀ g, F g → g < w.heap.size) (hBw : B ≤ w.heap.size) (hM : Mk B mb F vb vm x y w)
    (hx : x.length ≤ 549755813888) (hy : y.length ≤ 1073741824) :
    Calls Try.prog 52 #[.pointer (some ⟨mb, 0, none⟩)] w fun e w' => e = .returned (.tuple #[]) ∧ Mk B mb F vb vm (x ++ encs (ins y)) [] w' ∧ Kq B F w w' := by
  go_enter Try.func52, Try.ntmps52
  go_wp2
  go_loopw [] (fun wr => ∃ (x' y' : List UInt8), y'.length ≤ y.length ∧ x'.length ≤ x.length + 2 * (y.length - y'.length) ∧ x' ++ encs (ins y') = x ++ encs (ins y) ∧ Mk B mb F vb vm x' y' wr ∧ Kq B F w wr) (fun wr => waits mb wr)
  case atStart => exact ⟨x, y, Nat.le_refl _, by omega, rfl, hM, Kp.refl _ _⟩
  case round =>
    obtain ⟨x', y', hyl, hxl, hx', ⟨vo, vw, h1, h2, h3, h4, h5, h6, h7, h8⟩, hk⟩ := hrel
    have HX := Lib.hid hx'; clear hx'
    obtain ⟨Aw, cw, rfl, hcw, hcm, hAw⟩ := WinB.reads h3
    have c3 : wr.cell? ⟨mb, 3, none⟩ = some (.slice Aw y'.length cw) := by rw [cell_of_row _ _ _ _ _ _ h1]; rfl
    have hwt := waits_is c3
    have HWT := Lib.hid hwt; clear hwt
    by_cases hk0 : 0 < y'.length
    · have hne : y' ≠ [] := fun e => by rw [e] at hk0; simp at hk0
      have hic := ins_cons hne
      obtain ⟨m, hm⟩ : ∃ m, m = min y'.length 127 := ⟨_, rfl⟩
      have htl : (y'.take 127).length = m := by rw [List.length_take, hm, Nat.min_comm]
      have hmin : min (y'.length : Int) 127 = (m : Int) := by omega
      have hm1 : m ≤ y'.length := by omega
      have hm0 : 1 ≤ m := by omega
      have hm2 : m ≤ 127 := by omega
      have hbl : mb < wr.heap.size := (Array.getElem?_eq_some_iff.1 h1).1
      have kp := put_any B mb 2 #[vb, vm, vo, .slice Aw y'.length cw] 86 vo x' Aw cw (y'.take 127) wr.drew h1 rfl h2 h4 (by rw [htl]; omega) (by rw [htl]; omega) (Bs.take hAw 127)
        (fun ad e => by subst e; exact ⟨fun h => h5 (by rw [← h]; rfl), fun h => h6 _ h rfl⟩) (Nat.le_trans hBw hk.size)
      rw [htl] at kp
      have KPT := Lib.hid kp; clear kp
      have fin : ∀ w' : World, Wrote B mb 2 #[vb, vm, vo, .slice Aw y'.length cw] 86 vo (x' ++ UInt8.ofNat m :: y'.take 127) wr.drew w' → ∃ vo', w'.heap[mb]? = some (.cells #[vb, vm, vo', .slice Aw y'.length cw] 86 (0, 0)) ∧ WinB w' B 5 vo' (x' ++ UInt8.ofNat m :: y'.take 127) ∧ WinB w' B 5 (.slice Aw y'.length cw) y' ∧ (¬ vo'.ownBlock = some mb) ∧ (∀ g, vo'.ownBlock = some g → ¬ (Value.slice Aw y'.length cw).ownBlock = some g) ∧ (∀ g, vo'.ownBlock = some g → ¬ F g) ∧ Kq B F wr.drew w' :=
        fun w' hW => Mk.wrote hmb hFm (fun g hg => Nat.lt_of_lt_of_le (hF g hg) hk.size) h1 h2 h3 h4 h5 h6 h7 h8 hW
      have FIN := Lib.hid fin; clear fin
      have hs1 := slice_to22 Aw y'.length cw m (by omega)
      have hs2 := slice_from22 Aw y'.length cw m hm1
      have hdl : (y'.drop 127).length = y'.length - m := by simp; omega
      have HM := Lib.hid hm; have HTL := Lib.hid htl; have HIC := Lib.hid hic; have HDL := Lib.hid hdl
      clear hm htl hic hdl h1 h2 h3 h4 h6 h7
      go_upto_region 1 with fail
      go_cut [2] from 9 to 14 (fun t2 wx => t2 = .int .i64 m ∧ wx = wr)
      case first =>
        by_cases hle : y'.length ≤ 127
        · go_wp2
          go_meet
          case rel => exact ⟨by have := HM.out; rw [show m = y'.length by omega], rfl⟩
        · go_wp2
          go_meet
          case rel => exact ⟨by have := HM.out; rw [show m = 127 by omega]; rfl, rfl⟩
      case rest =>
      obtain ⟨rfl, rfl⟩ := hcut
      go_wp2
      go_still_tail 9, (by kernel_rfl)
      change wpList _ _ _ _ _ wc.drew
      go_wp2_with (go_at_call 44; (with_reducible refine KPT.out.mono ?_); rintro e w5 ⟨rfl, hW5⟩; obtain ⟨vo5, f1, f2, f3, f4, f6, f7, hk5⟩ := FIN.out _ hW5; clear hW5
                   have c5 : w5.cell? ⟨mb, 3, none⟩ = some (.slice Aw y'.length cw) := by rw [cell_of_row _ _ _ _ _ _ f1]; rfl
                   have fz5 : w5.frozen? ⟨mb, 3, none⟩ = false := frozen_of_row _ _ _ _ _ f1
                   have F1 := Lib.hid f1; have F2 := Lib.hid f2; have F3 := Lib.hid f3; have F4 := Lib.hid f4; have F6 := Lib.hid f6; clear f1 f2 f3 f4 f6)
      have hcc : (w5.setCell ⟨mb, 3, none⟩ (.slice (cutA Aw cw m 1) (y'.length - m) (cw - m))).heap[mb]? = some (.cells #[vb, vm, vo5, .slice (cutA Aw cw m 1) (y'.length - m) (cw - m)] 86 (0, 0)) := by
        have := heap_setCell_same _ mb 3 _ _ (.slice (cutA Aw cw m 1) (y'.length - m) (cw - m)) F1.out
        simpa using this
      have hw3 : WinB (w5.setCell ⟨mb, 3, none⟩ (.slice (cutA Aw cw m 1) (y'.length - m) (cw - m))) B 5 (.slice (cutA Aw cw m 1) (y'.length - m) (cw - m)) (y'.drop 127) := by
        have h := Win.cut F3.out hm1
        have e : (bvs y').drop (m * 1) = bvs (y'.drop 127) := by
          unfold bvs
          rw [List.map_drop, Nat.mul_one]
          rcases Nat.lt_or_ge y'.length 127 with hh | hh
          · rw [List.drop_eq_nil_of_le (by rw [HM.out]; simp; omega), List.drop_eq_nil_of_le (by simp; omega)]
          · rw [HM.out, Nat.min_eq_right hh]
        rw [e] at h
        have h' : WinB w5 B 5 (.slice (cutA Aw cw m 1) (y'.length - m) (cw - m)) (y'.drop 127) := by unfold WinB; rw [HDL.out]; exact h
        exact WinB.setNe h' (by rw [cutA_own (n := y'.length)]; exact h5)
      have hw2 := WinB.setNe (off := 3) (u := .slice (cutA Aw cw m 1) (y'.length - m) (cw - m)) F2.out F4.out
      have hkk : Kq B F w (w5.setCell ⟨mb, 3, none⟩ (.slice (cutA Aw cw m 1) (y'.length - m) (cw - m))) := (Kp.trans hk.drew hk5).setCell (p := ⟨mb, 3, none⟩) (Or.inl ⟨hmb, hFm⟩) _
      have hwt5 := waits_is (cell_of_row (w5.setCell ⟨mb, 3, none⟩ (.slice (cutA Aw cw m 1) (y'.length - m) (cw - m))) mb 3 _ _ _ hcc)
      have HCC := Lib.hid hcc; have HW3 := Lib.hid hw3; have HW2 := Lib.hid hw2; have HKK := Lib.hid hkk; have HWT5 := Lib.hid hwt5
      clear hcc hw3 hw2 hkk hwt5 c5 fz5 hk5
      go_roundw
      case rel =>
        refine ⟨x' ++ UInt8.ofNat m :: y'.take 127, y'.drop 127, by rw [HDL.out]; omega, ?_, ?_, ⟨vo5, _, HCC.out, HW2.out, HW3.out, F4.out, by rw [cutA_own (n := y'.length)]; exact h5, fun g hg => by rw [cutA_own (n := y'.length)]; exact F6.out g hg, f7, fun g hg => by rw [cutA_own (n := y'.length)] at hg; exact h8 g hg⟩, HKK.out⟩
        · rw [HDL.out, List.length_append, List.length_cons, HTL.out]; omega
        · rw [← HX.out, HIC.out, encs_cons, List.append_assoc]
          simp [enc, HTL.out]
      case measure => rw [HWT.out, HWT5.out]; omega
    · obtain rfl : y' = [] := List.eq_nil_of_length_eq_zero (by omega)
      have e0 : x' = x ++ encs (ins y) := by rw [← HX.out, ins_nil, encs_nil, List.append_nil]
      have E0 := Lib.hid e0; clear e0
      go_wp2
      go_end0
      exact ⟨rfl, by rw [← E0.out]; exact ⟨vo, _, h1, h2, h3, h4, h5, h6, h7, h8⟩, hk⟩
end Go.Proofs.Ytpfjkappgdpfbaa
