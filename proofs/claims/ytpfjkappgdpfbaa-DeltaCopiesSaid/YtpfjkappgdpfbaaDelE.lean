/- The maker's learn fills the map with positions in the base. Condition: the base has at most 2^39 bytes. -/
import Derived.Test.YtpfjkappgdpfbaaDelL
namespace Go.Proofs.Ytpfjkappgdpfbaa
open Go.RowKit
open Go.ChangeMaps Go.MapKept Go.ChangeShapes Go.Maps
set_option maxRecDepth 100000
set_option maxHeartbeats 4000000
theorem learn_any (mb mbk : Nat) (Ab : Option Addr) (cb : Nat) (base : List UInt8) (vo vw : Value) (looks : Int) (w : World) (hM : w.heap[mb]? = some (.cells #[.slice Ab base.length cb, .map (some mbk), vo, vw] 86 (0, 0)))
    (hmap : w.heap[mbk]? = some (.map #[] 0)) (hne : mb ≠ mbk) (hAb : ∀ w', Kp (fun k => k = mbk) w w' → Bs w' Ab base) (hc : base.length ≤ cb) (hcm : cb ≤ maxLen) (hb : base.length ≤ 549755813888) :
    Calls Try.prog 56 #[.pointer (some ⟨mb, 0, none⟩), .int .i64 looks] w fun e w' => e = .returned (.tuple #[]) ∧ (∃ n, n ≤ base.length ∧ Mq base.length w.heap.size mbk n w') ∧ Kp (fun k => k = mbk) w w' := by
  have hml : mb < w.heap.size := (Array.getElem?_eq_some_iff.1 hM).1
  have hkl : mbk < w.heap.size := (Array.getElem?_eq_some_iff.1 hmap).1
  go_enter Try.func56, Try.ntmps56
  go_wp2
  go_loopw [4] (fun t4 wr => ∃ i n : Nat, t4 = .int .i64 i ∧ n ≤ i ∧ i ≤ base.length ∧ Mq base.length w.heap.size mbk n wr ∧ Kp (fun k => k = mbk) w wr) (fun t4 _ => base.length - (intOf t4).toNat)
  case atStart => exact ⟨0, 0, rfl, by omega, by omega, Mq.empty hmap hkl, Kp.refl _ _⟩
  case round =>
    obtain ⟨i, n, rfl, hni, hib, ⟨D, hown, hPD⟩, hk⟩ := hrel
    have hrow := (hk.block mb hml hne).trans hM
    have c0 : wr.cell? ⟨mb, 0, none⟩ = some (.slice Ab base.length cb) := by rw [cell_of_row _ _ _ _ _ _ hrow]; rfl
    have c1 : wr.cell? ⟨mb, 1, none⟩ = some (.map (some mbk)) := by rw [cell_of_row _ _ _ _ _ _ hrow]; rfl
    by_cases hlt : i + 16 ≤ base.length
    · have b1 : decide ((i : Int) + 16 ≤ (base.length : Int)) = true := decide_eq_true (by omega)
      have hs1 := slice_from22 Ab base.length cb i hib
      have hdl : (base.drop i).length = base.length - i := by simp
      have kt := total_any (cutA Ab cb i 1) (cb - i) (base.drop i) wr (by rw [hdl]; omega) (by rw [hdl]; omega) (by omega) (Bs.cut (hAb wr hk) i cb hc)
      rw [hdl] at kt
      have HOWN := Lib.hid hown; have KT := Lib.hid kt
      clear hown kt hdl
      go_upto_if 31 with (first
        | (go_at_call 62; (with_reducible refine KT.out.mono ?_); rintro e w1 ⟨⟨v, rfl, hv0, hv1⟩, rfl⟩; have hkey := key23 hv0 hv1)
        | (at_lookup
           refine wpList_lookup_groups _ rfl _ _ 84 rfl 23 94 3 .i64 (int_keyed Try.underlying23) Try.underlying84 (zero94 _) w.heap.size mbk n D rfl HOWN.out (by unfold maxLen; omega) _ _ rfl hkey ?_; intro u zs hat hoi hzl hback
           obtain ⟨Au, cu, rfl, _, _, _⟩ := Win.reads (Win.ofOwns hoi.1)))
      by_cases hlk : (zs.length : Int) < looks
      · have q1 : decide ((zs.length : Int) < looks) = true := decide_eq_true hlk
        simp only [q1]
        clear hat hoi hzl hback hlk
        have hkey2 : WideAt.IsKeyLit (Lit.int .u32 v) := trivial
        have hnm : n < maxLen := by unfold maxLen; omega
        obtain ⟨O, hO⟩ : ∃ O, O = Obj.cells #[.int .i64 i] 3 := ⟨_, rfl⟩
        have hA : Below wr.heap.size wr ((wr.alloc O).drew) := ((Below.refl _ _).alloc (Nat.le_refl _) _).drew
        have hw1 : wr.drew.ownsGroups Try.prog 23 w.heap.size 3 .i64 mbk n D := groups_kept HOWN.out rfl (fun _ _ _ => rfl)
        have hw2 : ((wr.alloc O).drew).ownsGroups Try.prog 23 w.heap.size 3 .i64 mbk n D := groups_kept HOWN.out (hA.block mbk (Nat.lt_of_lt_of_le hkl hk.size)) (fun g _ h => hA.block g h)
        obtain ⟨u1, zs1, hr1, hat1, hoi1, hzl1, hback1⟩ := hw1.at (int_keyed Try.underlying23) Try.underlying84 (zero94 _) hnm hkey
        obtain ⟨u2, zs2, hr2, hat2, hoi2, hzl2, hback2⟩ := hw2.at (int_keyed Try.underlying23) Try.underlying84 (zero94 _) hnm hkey
        have d1 : wr.drew.cell? ⟨mb, 1, none⟩ = some (.map (some mbk)) := c1
        have hmlr : mb < wr.heap.size := Nat.lt_of_lt_of_le hml hk.size
        have d2 : ((wr.alloc O).drew).cell? ⟨mb, 1, none⟩ = some (.map (some mbk)) := (hA.cell (by exact hmlr)).trans c1
        have d3 : (wr.alloc O).cell? ⟨mb, 1, none⟩ = some (.map (some mbk)) := d2
        have hcell : ((wr.alloc O).drew).cell? ⟨wr.heap.size, 0, none⟩ = some (.int .i64 i) := by
          rw [show ((wr.alloc O).drew).cell? ⟨wr.heap.size, 0, none⟩ = (wr.alloc O).cell? ⟨wr.heap.size, 0, none⟩ from rfl, cell_of_row _ _ _ _ _ _ (by rw [heap_alloc_new, hO])]; rfl
        have hwf : (Lit.int .i64 (i : Int)).wf = true := WalkArith.wf_i64 (by omega)
        have hgr : wr.drew.grownBy ((wr.alloc O).drew) u1.ownBlock := ⟨rfl, rfl, rfl, by simp, fun g hg _ => hA.block g hg⟩
        have hoi1' : ((wr.alloc O).drew).ownsInts w.heap.size 3 .i64 u1 zs1 := ⟨ownsRow_heap hoi1.1 (fun g _ h => hA.block g h), hoi1.2⟩
        have hBs : w.heap.size ≤ ((wr.alloc O).drew).heap.size := Nat.le_trans hk.size (by simp)
        subst hO
        go_wp2
        go_region_law (first
          | (refine step_app94 rfl (.tmp 42) (.tmp 44) rfl w.heap.size u1 zs1 rfl hoi1' wr.heap.size i rfl hcell hwf (by omega) hBs ?_
             intro v' w' ho' hg' hl'
             obtain ⟨w2, hrun2, own2, hg2⟩ := hback1 w' v' (zs1 ++ [(i : Int)]) (hgr.trans hg') ho' (by simp; omega) (hl'.imp id (fun h => ⟨_, h, by simp⟩))
             have e1 : w'.cell? ⟨mb, 1, none⟩ = some (.map (some mbk)) := (World.cell?_of_block (hg'.block mb (Nat.lt_of_lt_of_le hml hBs) (fun e => absurd (hoi1.1.lt mb e.symm).1 (by omega)))).trans d2
             have KK : Kp (fun k => k = mbk) w w2 := (hk.drew.step (Kp.grown (hgr.trans hg')) (fun g hg e => absurd (hoi1.1.lt g e).1 (by omega))).step (Kp.grown hg2) (fun g hg e => by injection e with e; exact e.symm)
             have MM : Mq base.length w.heap.size mbk (n + 1) w2 := ⟨_, own2, hPD.put hkey2 v' (fun z hz => by
               rcases List.mem_append.1 hz with hz | hz
               · exact hPD.at hat1 hoi1 z hz
               · simp at hz; subst hz; omega)⟩
             clear own2 hg2)
          | (refine step_app94 rfl (.tmp 42) (.tmp 44) rfl w.heap.size u2 zs2 rfl hoi2 wr.heap.size i rfl hcell hwf (by omega) hBs ?_
             intro v' w' ho' hg' hl'
             obtain ⟨w2, hrun2, own2, hg2⟩ := hback2 w' v' (zs2 ++ [(i : Int)]) hg' ho' (by simp; omega) (hl'.imp id (fun h => ⟨_, h, by simp⟩))
             have e1 : w'.cell? ⟨mb, 1, none⟩ = some (.map (some mbk)) := (World.cell?_of_block (hg'.block mb (Nat.lt_of_lt_of_le hml hBs) (fun e => absurd (hoi2.1.lt mb e.symm).1 (by omega)))).trans d2
             have KK : Kp (fun k => k = mbk) w w2 := (((hk.trans (Kp.ofBelow hA)).step (Kp.grown hg') (fun g hg e => absurd (hoi2.1.lt g e).1 (by omega)))).step (Kp.grown hg2) (fun g hg e => by injection e with e; exact e.symm)
             have MM : Mq base.length w.heap.size mbk (n + 1) w2 := ⟨_, own2, hPD.put hkey2 v' (fun z hz => by
               rcases List.mem_append.1 hz with hz | hz
               · exact hPD.at hat2 hoi2 z hz
               · simp at hz; subst hz; omega)⟩
             clear own2 hg2))
        all_goals (
          go_wp2
          go_roundw
          case rel => exact ⟨i + 16, n + 1, by go_num, by omega, by omega, MM, KK⟩
          case measure => simp [intOf]; omega)
      · have q1 : decide ((zs.length : Int) < looks) = false := decide_eq_false hlk
        simp only [q1]
        clear hat hoi hzl hback hlk
        go_wp2
        go_roundw
        case rel => exact ⟨i + 16, n, by go_num, by omega, by omega, ⟨D, HOWN.out, hPD⟩, hk⟩
        case measure => simp [intOf]; omega
    · have b1 : decide ((i : Int) + 16 ≤ (base.length : Int)) = false := decide_eq_false (by omega)
      have HOWN := Lib.hid hown
      clear hown
      go_wp2
      go_end0
      exact ⟨rfl, ⟨n, by omega, D, HOWN.out, hPD⟩, hk⟩
end Go.Proofs.Ytpfjkappgdpfbaa
