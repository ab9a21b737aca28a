/- trovelaw13.DeltaMade answers true at any two lists and any effort. No condition. -/
import Derived.Test.YtpfjkappgdpfbaaDelBy
namespace Go.Proofs.Ytpfjkappgdpfbaa
open Go.RowKit
set_option maxRecDepth 100000
set_option maxHeartbeats 8000000
set_option linter.unusedVariables false
theorem apply33n (A : Option Addr) (nb c : Nat) (base : List UInt8) (A1 : Option Addr) (n c1 : Nat) (d : List UInt8) (most : Int) (w : World) (r : List UInt8 × Nat) (hnb : nb = base.length) (hl : nb ≤ 1099511627776) (hc : nb ≤ c) (hA : Bs w A base)
    (hn : n = d.length) (hl1 : d.length ≤ 1099511627776) (hc1 : n ≤ c1) (hA1 : Bs w A1 d) (hm : most ≤ 1099511627776) (h : applyD base d most = r) :
    Calls Try.prog 33 #[.slice A nb c, .slice A1 n c1, .int .i64 most] w (Out2 r w) := by
  subst hn h hnb
  exact apply_any A c base A1 c1 d most w hl hc hA hl1 hc1 hA1 hm
/-- one byte, new -/
theorem WinB.one (w : World) (x : Int) (u : UInt8) (hu : x = (u.toNat : Int)) : WinB (w.alloc (.cells #[.int .u8 x] 5)) w.heap.size 5 (.slice (some ⟨w.heap.size, 0, none⟩) 1 1) [u] := by
  subst hu
  exact Win.ofOwns (World.ownsRow_lit w #[.int .u8 u.toNat] 1 (Nat.le_refl _) (by unfold maxLen; omega) rfl)
theorem deltaMade_any (A : Option Addr) (c : Nat) (base : List UInt8) (A1 : Option Addr) (c1 : Nat) (target : List UInt8) (effort : Int) (w : World) (hc : base.length ≤ c) (hcm : c ≤ maxLen) (hA : Bs w A base) (hc1 : target.length ≤ c1) (hcm1 : c1 ≤ maxLen) (hA1 : Bs w A1 target) :
    Calls Try.prog 9 #[.slice A base.length c, .slice A1 target.length c1, .int .i64 effort] w fun e w' => e = .returned (.bool true) ∧ Below w.heap.size w w' := by
  by_cases h1 : 3000 < base.length
  · go_enter Try.func9, Try.ntmps9
    go_wp2_with (go_at_call 25; refine (known_any _).mono ?_; rintro e w1 ⟨rfl, hb1⟩)
    go_ret
    exact ⟨rfl, hb1⟩
  by_cases h2 : 3000 < target.length
  · go_enter Try.func9, Try.ntmps9
    go_wp2_with (go_at_call 25; refine (known_any _).mono ?_; rintro e w1 ⟨rfl, hb1⟩)
    go_ret
    exact ⟨rfl, hb1⟩
  have H1 := Lib.hid hA; have H2 := Lib.hid hA1
  clear hA hA1
  have g1 : decide ((3000 : Int) < (base.length : Int)) = false := decide_eq_false (by omega)
  have g2 : decide ((3000 : Int) < (target.length : Int)) = false := decide_eq_false (by omega)
  by_cases h0 : target.length = 0
  · have q0 : ((target.length : Int) == 0) = true := by simp [h0]
    have H0 := Lib.hid h0
    clear h0
    go_enter Try.func9, Try.ntmps9
    go_wp2_with (first
      | (go_at_call 25; (with_reducible refine (known_any _).mono ?_); rintro e w1 ⟨rfl, hb1⟩)
      | (go_at_call 31
         (with_reducible refine (make_any A c base A1 c1 target effort w1 (by omega) (by omega) hc hcm hc1 hcm1 (H1.out.below hb1) (H2.out.below hb1)).mono ?_); rintro e w2 ⟨ops, hmade, hl, _, v2, rfl, hw2, hb2⟩
         obtain ⟨dm, hdm⟩ : ∃ dm, dm = putSize base.length ++ putSize target.length ++ encs ops := ⟨_, rfl⟩
         rw [← hdm] at hw2
         obtain ⟨m2, hm2⟩ : ∃ m2, m2 = dm.length := ⟨_, rfl⟩
         obtain ⟨A2, c2, rfl, hc2, _, hr2⟩ := WinB.readsN (n := m2) hw2 hm2.symm
         have dl : dm.length ≤ 2000000 := by
           have e1 := putSize_len base.length 3 (by omega) (by decide)
           have e2 := putSize_len target.length 3 (by omega) (by decide)
           rw [hdm, List.length_append, List.length_append]; omega
         have r1 : applyD base dm target.length = (target, 0) := by rw [hdm, applyD_made hmade (by omega) (by omega), if_neg (by omega)]
         have B2 := hb1.trans (hb2.mono hb1.size)
         have R1 := Lib.hid r1; have HM2 := Lib.hid hm2; have HR2 := Lib.hid hr2; have DL := Lib.hid dl
         clear hw2 hdm r1 hm2 hr2 hmade dl)
      | (go_at_call 32; (with_reducible refine (apply32 A c base A2 m2 c2 dm target.length w2 _ (by omega) hc (H1.out.below B2) HM2.out (by have := DL.out; omega) hc2 HR2.out (by omega) R1.out).mono ?_); rintro e w3 ⟨v3, rfl, hw3, hb3⟩
         obtain ⟨A3, c3, rfl, _, _, hr3⟩ := WinB.readsN (n := target.length) hw3 rfl
         have B3 := B2.trans (hb3.mono B2.size))
      | (go_at_call 33; (with_reducible refine (apply33 A c base A2 m2 c2 dm target.length w3 _ (by omega) hc (H1.out.below B3) HM2.out (by have := DL.out; omega) hc2 (Sl.below HR2.out hb3) (by omega) R1.out).mono ?_); rintro e w4 ⟨v4, rfl, hw4, hb4⟩
         obtain ⟨A4, c4, rfl, _, _, hr4⟩ := WinB.readsN (n := target.length) hw4 rfl
         have B4 := B3.trans (hb4.mono B3.size)
         have e1 : (convert 22 9 (.slice A3 target.length c3)).run Try.prog w4 = .ok (.string (bstr target)) w4 := conv22 (Sl.below hr3 hb4) rfl
         have e2 : (convert 22 9 (.slice A1 target.length c1)).run Try.prog w4 = .ok (.string (bstr target)) w4 := conv22 (Sl.below H2.out B4) rfl
         have e3 : (convert 22 9 (.slice A4 target.length c4)).run Try.prog w4 = .ok (.string (bstr target)) w4 := conv22 hr4 rfl))
    go_ret
    exact ⟨rfl, B4⟩
  · have q0 : ((target.length : Int) == 0) = false := by rw [beq_eq_false_iff_ne]; omega
    go_enter Try.func9, Try.ntmps9
    go_wp2_with (first
      | (go_at_call 25; (with_reducible refine (known_any _).mono ?_); rintro e w1 ⟨rfl, hb1⟩)
      | (go_at_call 31
         (with_reducible refine (make_any A c base A1 c1 target effort w1 (by omega) (by omega) hc hcm hc1 hcm1 (H1.out.below hb1) (H2.out.below hb1)).mono ?_); rintro e w2 ⟨ops, hmade, hl, _, v2, rfl, hw2, hb2⟩
         obtain ⟨dm, hdm⟩ : ∃ dm, dm = putSize base.length ++ putSize target.length ++ encs ops := ⟨_, rfl⟩
         rw [← hdm] at hw2
         obtain ⟨m2, hm2⟩ : ∃ m2, m2 = dm.length := ⟨_, rfl⟩
         obtain ⟨A2, c2, rfl, hc2, _, hr2⟩ := WinB.readsN (n := m2) hw2 hm2.symm
         have dl : dm.length ≤ 2000000 := by
           have e1 := putSize_len base.length 3 (by omega) (by decide)
           have e2 := putSize_len target.length 3 (by omega) (by decide)
           rw [hdm, List.length_append, List.length_append]; omega
         have r1 : applyD base dm target.length = (target, 0) := by rw [hdm, applyD_made hmade (by omega) (by omega), if_neg (by omega)]
         have r2 : applyD base dm ((target.length : Int) - 1) = ([], 5) := by rw [hdm, applyD_made hmade (by omega) (by omega), if_pos (by omega)]
         have r3 : applyD (1 :: base) dm target.length = ([], 2) := by rw [hdm]; exact applyD_other hmade (by omega) (by omega) _ (by simp)
         have B2 := hb1.trans (hb2.mono hb1.size)
         have R1 := Lib.hid r1; have R2 := Lib.hid r2; have R3 := Lib.hid r3; have HM2 := Lib.hid hm2; have HR2 := Lib.hid hr2; have DL := Lib.hid dl
         clear hw2 hdm r1 r2 r3 hm2 hr2 hmade dl)
      | (go_at_call 32; (with_reducible refine (apply32 A c base A2 m2 c2 dm target.length w2 _ (by omega) hc (H1.out.below B2) HM2.out (by have := DL.out; omega) hc2 HR2.out (by omega) R1.out).mono ?_); rintro e w3 ⟨v3, rfl, hw3, hb3⟩
         obtain ⟨A3, c3, rfl, _, _, hr3⟩ := WinB.readsN (n := target.length) hw3 rfl
         have B3 := B2.trans (hb3.mono B2.size))
      | (go_at_call 33; (with_reducible refine (apply33 A c base A2 m2 c2 dm target.length w3 _ (by omega) hc (H1.out.below B3) HM2.out (by have := DL.out; omega) hc2 (Sl.below HR2.out hb3) (by omega) R1.out).mono ?_); rintro e w4 ⟨v4, rfl, hw4, hb4⟩
         obtain ⟨A4, c4, rfl, _, _, hr4⟩ := WinB.readsN (n := target.length) hw4 rfl
         have B4 := B3.trans (hb4.mono B3.size)
         have hb34 := hb3.trans (hb4.mono hb3.size)
         have e1 : (convert 22 9 (.slice A3 target.length c3)).run Try.prog w4 = .ok (.string (bstr target)) w4 := conv22 (Sl.below hr3 hb4) rfl
         have e2 : (convert 22 9 (.slice A1 target.length c1)).run Try.prog w4 = .ok (.string (bstr target)) w4 := conv22 (Sl.below H2.out B4) rfl
         have e3 : (convert 22 9 (.slice A4 target.length c4)).run Try.prog w4 = .ok (.string (bstr target)) w4 := conv22 hr4 rfl)
      | (go_at_call 33; (with_reducible refine (apply33 A c base A2 m2 c2 dm ((target.length : Int) - 1) w4 _ (by omega) hc (H1.out.below B4) HM2.out (by have := DL.out; omega) hc2 (Sl.below HR2.out hb34) (by omega) R2.out).mono ?_); rintro e w5 ⟨v5, rfl, hw5, hb5⟩
         have B5 := B4.trans (hb5.mono B4.size)
         have hb35 := hb34.trans (hb5.mono hb34.size))
      | (at_builtin
         refine appW22 rfl (.tmp 79) (.tmp 80) rfl w5.heap.size _ [1] rfl (WinB.one w5 1 1 rfl) A c base rfl (Sl.below H1.out (B5.alloc B5.size _)) (by simp; omega) (by simp) ?_
         intro v6 w6 hw6 hk6 _
         obtain ⟨A6, c6, rfl, hc6, _, hr6⟩ := WinB.readsN (n := base.length + 1) hw6 (by simp)
         have hb6 : Below w5.heap.size w5 w6 := ((Below.refl _ _).alloc (Nat.le_refl _) _).trans (hk6.toBelow (by simp) (fun g hg e => by injection e with e; exact absurd (show w5.heap.size = g from e) (by omega)))
         have B6 := B5.trans (hb6.mono B5.size)
         have hb36 := hb35.trans (hb6.mono hb35.size)
         have hr6' : Bs w6 A6 (1 :: base) := hr6
         clear hw6 hk6)
      | (go_at_call 33; (with_reducible refine (apply33n A6 _ c6 (1 :: base) A2 m2 c2 dm target.length w6 _ (by simp) (by omega) hc6 hr6' HM2.out (by have := DL.out; omega) hc2 (Sl.below HR2.out hb36) (by omega) R3.out).mono ?_); rintro e w7 ⟨v7, rfl, hw7, hb7⟩))
    go_ret
    exact ⟨rfl, B6.trans (hb7.mono B6.size)⟩
end Go.Proofs.Ytpfjkappgdpfbaa
