/- trovelaw13.DeltaSmall answers true at any base, any place, any few bytes. No condition. -/
import Derived.Test.YtpfjkappgdpfbaaDelMd
import Derived.Deep.RegionLaw
namespace Go.Proofs.Ytpfjkappgdpfbaa
open Go.RowKit
set_option maxRecDepth 100000
set_option maxHeartbeats 8000000
set_option linter.unusedVariables false
theorem drop_mid {base put : List UInt8} {p f : Nat} (h : p ≤ f) (hp : p ≤ base.length) : (base.take p ++ put ++ base.drop p).drop (f + put.length) = base.drop f := by
  have hl : (base.take p ++ put).length = p + put.length := by simp; omega
  rw [List.drop_append, List.drop_eq_nil_of_le (by omega), hl, List.nil_append, List.drop_drop]
  congr 1; omega
theorem small_mid {base put : List UInt8} {p : Nat} (hp : p ≤ base.length) (hput : put.length ≤ 10) (hb : 64 ≤ base.length) :
    (base.take p ++ put ++ base.drop p).length - mBack base (base.take p ++ put ++ base.drop p) - mFront base (base.take p ++ put ++ base.drop p) ≤ 17 := by
  have htl : (base.take p ++ put ++ base.drop p).length = base.length + put.length := by simp; omega
  have ha : p ≤ alike base (base.take p ++ put ++ base.drop p) := by
    have := alike_ge (base.take p) (base.drop p) (put ++ base.drop p)
    rw [List.take_append_drop, List.length_take, Nat.min_eq_left hp, ← List.append_assoc] at this
    exact this
  have hal := alike_le base (base.take p ++ put ++ base.drop p)
  have hd : ∀ f, p ≤ f → (base.take p ++ put ++ base.drop p).drop (f + put.length) = base.drop f := fun f h => drop_mid h hp
  have hbk : base.length - p ≤ behind base (base.take p ++ put ++ base.drop p) := by
    have := behind_ge (base.drop p) (base.take p) (base.take p ++ put)
    rw [List.take_append_drop, List.length_drop] at this
    exact this
  generalize base.take p ++ put ++ base.drop p = t at *
  have hbg : ∀ f, p ≤ f → base.length - f ≤ behind (base.drop f) (t.drop f) := fun f h => by
    have h1 := behind_ge (base.drop f) [] ((t.drop f).take put.length)
    have h2 : (t.drop f).take put.length ++ base.drop f = t.drop f := by
      rw [← hd f h, ← List.drop_drop, List.take_append_drop]
    rw [h2, List.nil_append, List.length_drop] at h1
    exact h1
  rw [htl]
  by_cases h8 : alike base t < 8
  · have hf : mFront base t = 0 := if_pos h8
    have hb8 : mBack base t = behind base t := by
      unfold mBack
      rw [hf, List.drop_zero, List.drop_zero, if_neg (by omega)]
    rw [hf, hb8]
    omega
  · have hf : mFront base t = alike base t := if_neg h8
    have := hbg (alike base t) ha
    unfold mBack
    rw [hf]
    split <;> omega
theorem small_len {base put : List UInt8} {p : Nat} {ops : List DOp} (hp : p ≤ base.length) (hput : put.length ≤ 10) (hb : 64 ≤ base.length) (hb2 : base.length ≤ 3000) (h : mSize base (base.take p ++ put ++ base.drop p) ops) :
    (putSize base.length ++ putSize (base.take p ++ put ++ base.drop p).length ++ encs ops).length ≤ 60 := by
  have h1 := small_mid hp hput hb
  have htl : (base.take p ++ put ++ base.drop p).length = base.length + put.length := by simp; omega
  obtain ⟨h2, h3, _⟩ := mFront_le base (base.take p ++ put ++ base.drop p)
  obtain ⟨h4, h5, _⟩ := mBack_le base (base.take p ++ put ++ base.drop p)
  unfold mSize at h
  generalize base.take p ++ put ++ base.drop p = t at *
  have e1 := putSize_len base.length 2 (by omega) (by decide)
  have e2 := putSize_len t.length 2 (by omega) (by decide)
  rw [List.length_append, List.length_append]
  omega
theorem makeN (Ab : Option Addr) (cb : Nat) (base : List UInt8) (At : Option Addr) (n ct : Nat) (target : List UInt8) (effort : Int) (w : World) (hn : n = target.length) (hb : base.length ≤ 262144) (ht : target.length ≤ 262144) (hcb : base.length ≤ cb) (hcbm : cb ≤ maxLen) (hct : n ≤ ct) (hctm : ct ≤ maxLen)
    (hAb : Bs w Ab base) (hAt : Bs w At target) : Calls Try.prog 31 #[.slice Ab base.length cb, .slice At n ct, .int .i64 effort] w (OutM base target effort w) := by
  subst hn
  exact make_any Ab cb base At ct target effort w hb ht hcb hcbm hct hctm hAb hAt
theorem deltaSmall_any (A : Option Addr) (c : Nat) (base : List UInt8) (at' : Int) (A1 : Option Addr) (c1 : Nat) (put : List UInt8) (effort : Int) (w : World) (hc : base.length ≤ c) (hcm : c ≤ maxLen) (hA : Bs w A base) (hc1 : put.length ≤ c1) (hcm1 : c1 ≤ maxLen) (hA1 : Bs w A1 put) :
    Calls Try.prog 10 #[.slice A base.length c, .int .i64 at', .slice A1 put.length c1, .int .i64 effort] w fun e w' => e = .returned (.bool true) ∧ Below w.heap.size w w' := by
  by_cases h1 : base.length < 64
  · go_enter Try.func10, Try.ntmps10
    go_wp2_with (go_at_call 25; refine (known_any _).mono ?_; rintro e w1 ⟨rfl, hb1⟩)
    go_ret
    exact ⟨rfl, hb1⟩
  by_cases h2 : 3000 < base.length
  · go_enter Try.func10, Try.ntmps10
    go_wp2_with (go_at_call 25; refine (known_any _).mono ?_; rintro e w1 ⟨rfl, hb1⟩)
    go_ret
    exact ⟨rfl, hb1⟩
  by_cases h3 : at' < 0
  · go_enter Try.func10, Try.ntmps10
    go_wp2_with (go_at_call 25; refine (known_any _).mono ?_; rintro e w1 ⟨rfl, hb1⟩)
    go_ret
    exact ⟨rfl, hb1⟩
  by_cases h4 : (base.length : Int) < at'
  · go_enter Try.func10, Try.ntmps10
    go_wp2_with (go_at_call 25; refine (known_any _).mono ?_; rintro e w1 ⟨rfl, hb1⟩)
    go_ret
    exact ⟨rfl, hb1⟩
  by_cases h5 : 10 < put.length
  · go_enter Try.func10, Try.ntmps10
    go_wp2_with (go_at_call 25; refine (known_any _).mono ?_; rintro e w1 ⟨rfl, hb1⟩)
    go_ret
    exact ⟨rfl, hb1⟩
  by_cases h6 : effort < 1
  · go_enter Try.func10, Try.ntmps10
    go_wp2_with (go_at_call 25; refine (known_any _).mono ?_; rintro e w1 ⟨rfl, hb1⟩)
    go_ret
    exact ⟨rfl, hb1⟩
  obtain ⟨p, rfl⟩ : ∃ p : Nat, at' = p := ⟨at'.toNat, by omega⟩
  have hp : p ≤ base.length := by omega
  obtain ⟨t, ht⟩ : ∃ t, t = base.take p ++ put ++ base.drop p := ⟨_, rfl⟩
  obtain ⟨tl, htl⟩ : ∃ tl, tl = t.length := ⟨_, rfl⟩
  have htn : tl = base.length + put.length := by rw [htl, ht]; simp; omega
  have hl1 : (base.take p).length = p := by simp; omega
  have hl2 : (base.drop p).length = base.length - p := by simp
  have s1 := slice_to22 A base.length c p (by omega)
  have s2 := slice_from22 A base.length c p hp
  have H1 := Lib.hid hA; have H2 := Lib.hid hA1; have HT := Lib.hid ht; have HTL := Lib.hid htl; have HTN := Lib.hid htn; have HL1 := Lib.hid hl1; have HL2 := Lib.hid hl2
  have htl2 : tl ≤ 3010 := by omega
  clear hA hA1 ht htl htn hl1 hl2
  go_enter Try.func10, Try.ntmps10
  go_upto_region 5 with (go_at_call 25; (with_reducible refine (known_any _).mono ?_); rintro e w1 ⟨rfl, hb1⟩)
  have hE : WinB ((w1.alloc (.cells #[] 5)).drew) w1.heap.size 5 (.slice (some ⟨w1.heap.size, 0, none⟩) 0 0) [] := WinB.empty (Nat.le_refl _)
  have hbE : Below w1.heap.size w1 ((w1.alloc (.cells #[] 5)).drew) := ((Below.refl _ _).alloc (Nat.le_refl _) _).drew
  have hT1 : Bs ((w1.alloc (.cells #[] 5)).drew) A (base.take p) := Bs.take (Sl.below (Sl.below H1.out hb1) hbE) p
  have hsE : w1.heap.size ≤ ((w1.alloc (.cells #[] 5)).drew).heap.size := by simp
  have HE := Lib.hid hE; have HT1 := Lib.hid hT1
  clear hE hT1
  go_region_law (first
    | (refine step_appW22' rfl (.tmp 42) (.tmp 45) rfl w1.heap.size _ [] rfl HE.out A c (base.take p) (by rw [HL1.out]; rfl) HT1.out (by simp; omega) hsE ?_
       intro v2 w2 hw2 hk2 ho2
       obtain ⟨A2, c2, rfl, _, _, _⟩ := WinB.readsN (n := p) hw2 (by simp; omega)
       have hb2 : Below w1.heap.size w1 w2 := hbE.trans (hk2.toBelow hsE (fun g hg e => by injection e with e; exact absurd (show w1.heap.size = g from e) (by omega)))
       have HW2 := Lib.hid hw2
       clear hw2 hk2 ho2)
    | (refine step_appW22' rfl (.tmp 46) (.tmp 47) rfl w1.heap.size _ ([] ++ base.take p) rfl HW2.out A1 c1 put rfl (Sl.below (Sl.below H2.out hb1) hb2) (by simp; omega) hb2.size ?_
       intro v3 w3 hw3 hk3 ho3
       obtain ⟨A3, c3, rfl, _, _, _⟩ := WinB.readsN (n := p + put.length) hw3 (by simp; omega)
       have hb3 : Below w1.heap.size w1 w3 := hb2.trans (hk3.toBelow hb2.size (fun g hg e => absurd (Win.block HW2.out g e).1 (by omega)))
       have HW3 := Lib.hid hw3
       clear hw3 hk3 ho3)
    | (refine step_appW22' rfl (.tmp 48) (.tmp 51) rfl w1.heap.size _ ([] ++ base.take p ++ put) rfl HW3.out (cutA A c p 1) (c - p) (base.drop p) (by rw [HL2.out]; rfl) (Bs.cut (Sl.below (Sl.below H1.out hb1) hb3) p c hc) (by simp; omega) hb3.size ?_
       intro v4 w4 hw4 hk4 ho4
       have hw4' : WinB w4 w1.heap.size 5 v4 t := by rw [HT.out]; exact hw4
       obtain ⟨A4, c4, rfl, hc4, hm4, hr4⟩ := WinB.readsN (n := tl) hw4' HTL.out.symm
       have hb4 : Below w1.heap.size w1 w4 := hb3.trans (hk4.toBelow hb3.size (fun g hg e => absurd (Win.block HW3.out g e).1 (by omega)))
       have HR4 := Lib.hid hr4
       clear hw4 hw4' hk4 ho4 hr4))
  all_goals (
    have B4 := hb1.trans (hb4.mono hb1.size)
    go_wp2_with (first
      | (go_at_call 31
         (with_reducible refine (makeN A c base A4 tl c4 t effort w4 HTL.out (by omega) (by have := HTL.out; omega) hc hcm hc4 hm4 (Sl.below H1.out B4) HR4.out).mono ?_); rintro e w5 ⟨ops, hmade, hl, hsz, v5, rfl, hw5, hb5⟩
         obtain ⟨dm, hdm⟩ : ∃ dm, dm = putSize base.length ++ putSize t.length ++ encs ops := ⟨_, rfl⟩
         rw [← hdm] at hw5
         obtain ⟨m5, hm5⟩ : ∃ m5, m5 = dm.length := ⟨_, rfl⟩
         obtain ⟨A5, c5, rfl, hc5, _, hr5⟩ := WinB.readsN (n := m5) hw5 hm5.symm
         have htt := HT.out
         have dl : m5 ≤ 60 := by
           rw [hm5, hdm]
           have h0 := hsz (by omega)
           rw [htt] at h0 ⊢
           exact small_len hp (by omega) (by omega) (by omega) h0
         have r1 : applyD base dm tl = (t, 0) := by rw [hdm, applyD_made hmade (by omega) (by have := HTL.out; omega), if_neg (by have := HTL.out; omega)]
         have hle : decide ((m5 : Int) ≤ 60 + (tl : Int) / 3000) = true := decide_eq_true (by omega)
         have B5 := B4.trans (hb5.mono B4.size)
         have R1 := Lib.hid r1; have HM5 := Lib.hid hm5; have HR5 := Lib.hid hr5
         clear hw5 hdm r1 hm5 hr5 hmade htt hsz)
      | (go_at_call 32; (with_reducible refine (apply32 A c base A5 m5 c5 dm tl w5 _ (by omega) hc (Sl.below H1.out B5) HM5.out (by have := HM5.out; omega) hc5 HR5.out (by omega) R1.out).mono ?_); rintro e w6 ⟨v6, rfl, hw6, hb6⟩
         obtain ⟨A6, c6, rfl, _, _, hr6⟩ := WinB.readsN (n := tl) hw6 HTL.out.symm
         have B6 := B5.trans (hb6.mono B5.size)
         have e1 : (convert 22 9 (.slice A6 tl c6)).run Try.prog w6 = .ok (.string (bstr t)) w6 := conv22 hr6 HTL.out
         have e2 : (convert 22 9 (.slice A4 tl c4)).run Try.prog w6 = .ok (.string (bstr t)) w6 := conv22 (Sl.below HR4.out (hb5.trans (hb6.mono hb5.size))) HTL.out))
    go_ret
    exact ⟨rfl, B6⟩)
end Go.Proofs.Ytpfjkappgdpfbaa
