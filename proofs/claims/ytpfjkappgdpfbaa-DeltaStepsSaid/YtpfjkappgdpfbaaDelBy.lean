/- trovelaw13.DeltaBytes answers true at any bytes and any bound. No condition. -/
import Derived.Test.YtpfjkappgdpfbaaDelQ
import Derived.Test.YtpfjkappgdpfbaaDelY
namespace Go.Proofs.Ytpfjkappgdpfbaa
open Go.RowKit
set_option maxRecDepth 100000
set_option maxHeartbeats 8000000
theorem sizes34 (A : Option Addr) (c : Nat) (l : List UInt8) (w : World) (hl : l.length ≤ 1099511627776) (hc : l.length ≤ c) (hA : Bs w A l) (a b x d : Nat) (h : sizesR l = (a, b, x, d)) :
    Calls Try.prog 34 #[.slice A l.length c] w fun e w' => e = .returned (.tuple #[.int .i64 a, .int .i64 b, .int .i64 d]) ∧ w = w' := by
  have := sizesPub_any A c l w hl hc hA
  rw [h] at this
  exact this
theorem sizes35 (A : Option Addr) (c : Nat) (l : List UInt8) (w : World) (hl : l.length ≤ 1099511627776) (hc : l.length ≤ c) (hA : Bs w A l) (a b x d : Nat) (h : sizesR l = (a, b, x, d)) :
    Calls Try.prog 35 #[.slice A l.length c] w fun e w' => e = .returned (.tuple #[.int .i64 a, .int .i64 b, .int .i64 x, .int .i64 d]) ∧ w = w' := by
  have := sizesRef_any A c l w hl hc hA
  rw [h] at this
  exact this
theorem parse29 (A : Option Addr) (c : Nat) (d : List UInt8) (w : World) (hl : d.length ≤ 1099511627776) (hc : d.length ≤ c) (hA : Bs w A d) (a b : Nat) (ops : List DOp) (er : Nat) (h : deltaR d = (a, b, ops, er)) :
    Calls Try.prog 29 #[.slice A d.length c] w fun e w' => ∃ A' c', e = .returned (.tuple #[.int .i64 a, .int .i64 b, .slice A' ops.length c', .int .i64 er]) ∧ OpsR w' A' ops ∧ Below w.heap.size w w' := by
  have := parse_any A c d w hl hc hA
  unfold ParseOut at this
  rw [h] at this
  refine this.mono ?_
  rintro e w' ⟨v, rfl, hv, hb⟩
  obtain ⟨A', c', rfl, _, _, hr⟩ := OpsW.reads hv
  exact ⟨A', c', rfl, hr, hb⟩
theorem parse36 (A : Option Addr) (c : Nat) (d : List UInt8) (w : World) (hl : d.length ≤ 1099511627776) (hc : d.length ≤ c) (hA : Bs w A d) (a b : Nat) (ops : List DOp) (er : Nat) (h : deltaR d = (a, b, ops, er)) :
    Calls Try.prog 36 #[.slice A d.length c] w fun e w' => ∃ A' c', e = .returned (.tuple #[.int .i64 a, .int .i64 b, .slice A' ops.length c', .int .i64 er]) ∧ OpsR w' A' ops ∧ Below w.heap.size w w' := by
  have := parseRef_any A c d w hl hc hA
  unfold ParseOutR at this
  rw [h] at this
  refine this.mono ?_
  rintro e w' ⟨v, rfl, hv, hb⟩
  obtain ⟨A', c', rfl, _, _, hr⟩ := OpsW.reads hv
  exact ⟨A', c', rfl, hr, hb⟩
theorem apply33 (A : Option Addr) (c : Nat) (base : List UInt8) (A1 : Option Addr) (n c1 : Nat) (d : List UInt8) (most : Int) (w : World) (r : List UInt8 × Nat) (hl : base.length ≤ 1099511627776) (hc : base.length ≤ c) (hA : Bs w A base)
    (hn : n = d.length) (hl1 : d.length ≤ 1099511627776) (hc1 : n ≤ c1) (hA1 : Bs w A1 d) (hm : most ≤ 1099511627776) (h : applyD base d most = r) :
    Calls Try.prog 33 #[.slice A base.length c, .slice A1 n c1, .int .i64 most] w (Out2 r w) := by
  subst hn h
  exact apply_any A c base A1 c1 d most w hl hc hA hl1 hc1 hA1 hm
theorem apply32 (A : Option Addr) (c : Nat) (base : List UInt8) (A1 : Option Addr) (n c1 : Nat) (d : List UInt8) (most : Int) (w : World) (r : List UInt8 × Nat) (hl : base.length ≤ 1099511627776) (hc : base.length ≤ c) (hA : Bs w A base)
    (hn : n = d.length) (hl1 : d.length ≤ 1099511627776) (hc1 : n ≤ c1) (hA1 : Bs w A1 d) (hm : most ≤ 1099511627776) (h : applyD base d most = r) :
    Calls Try.prog 32 #[.slice A base.length c, .slice A1 n c1, .int .i64 most] w (Out2 r w) := by
  subst hn h
  exact applyRef_any A c base A1 c1 d most w hl hc hA hl1 hc1 hA1 hm
theorem parseR_len : ∀ (k : Nat) (d : List UInt8) (l : List DOp), d.length ≤ k → parseR d = .ok l → l.length ≤ d.length
  | 0, d, l, hk, h => by
    have : d = [] := List.eq_nil_of_length_eq_zero (by omega)
    subst this
    rw [parseR_nil] at h
    cases h; simp
  | k + 1, d, l, hk, h => by
    cases hs : stepR d with
    | error e =>
      by_cases hd : d = []
      · subst hd; rw [parseR_nil] at h; cases h; simp
      · rw [parseR_bad hd hs] at h; cases h
    | ok p =>
      obtain ⟨o, r⟩ := p
      have hl := stepR_len hs
      rw [parseR_step hs] at h
      cases hr : parseR r with
      | error e => rw [hr] at h; cases h
      | ok l' =>
        rw [hr] at h
        cases h
        have := parseR_len k r l' (by omega) hr
        simp; omega
theorem deltaR_len (d : List UInt8) : (deltaR d).2.2.1.length ≤ d.length := by
  unfold deltaR
  split
  · split
    · simp
    · rename_i hp
      have := parseR_len _ _ _ (Nat.le_refl _) hp
      simp at this ⊢
      omega
  · simp
theorem deltaBytes_any (A : Option Addr) (c : Nat) (base : List UInt8) (A1 : Option Addr) (c1 : Nat) (d : List UInt8) (most : Int) (w : World) (hc : base.length ≤ c) (hA : Bs w A base) (hc1 : d.length ≤ c1) (hA1 : Bs w A1 d) :
    Calls Try.prog 13 #[.slice A base.length c, .slice A1 d.length c1, .int .i64 most] w fun e w' => e = .returned (.bool true) ∧ Below w.heap.size w w' := by
  by_cases h1 : 3000 < base.length
  · go_enter Try.func13, Try.ntmps13
    go_wp2_with (go_at_call 25; refine (known_any _).mono ?_; rintro e w1 ⟨rfl, hb1⟩)
    go_ret
    exact ⟨rfl, hb1⟩
  by_cases h2 : 3000 < d.length
  · go_enter Try.func13, Try.ntmps13
    go_wp2_with (go_at_call 25; refine (known_any _).mono ?_; rintro e w1 ⟨rfl, hb1⟩)
    go_ret
    exact ⟨rfl, hb1⟩
  by_cases h3 : 1048576 < most
  · go_enter Try.func13, Try.ntmps13
    go_wp2_with (go_at_call 25; refine (known_any _).mono ?_; rintro e w1 ⟨rfl, hb1⟩)
    go_ret
    exact ⟨rfl, hb1⟩
  rcases hs : sizesR d with ⟨s1, s2, s3, s4⟩
  rcases hd : deltaR d with ⟨p1, p2, ops, p4⟩
  rcases ha : applyD base d most with ⟨out, er⟩
  have hol : ops.length ≤ 3000 := by
    have := deltaR_len d
    rw [hd] at this
    simp only at this
    omega
  have HS := Lib.hid hs; have HD := Lib.hid hd; have HA := Lib.hid ha
  clear hs hd ha
  have H1 := Lib.hid hA; have H2 := Lib.hid hA1
  clear hA hA1
  go_enter Try.func13, Try.ntmps13
  go_wp2_with (first
    | (go_at_call 25; (with_reducible refine (known_any _).mono ?_); rintro e w1 ⟨rfl, hb1⟩)
    | (go_at_call 34; (with_reducible refine (sizes34 A1 c1 d w1 (by omega) hc1 (H2.out.below hb1) _ _ _ _ HS.out).mono ?_); rintro e w1' ⟨rfl, rfl⟩)
    | (go_at_call 35; (with_reducible refine (sizes35 A1 c1 d w1 (by omega) hc1 (H2.out.below hb1) _ _ _ _ HS.out).mono ?_); rintro e w1' ⟨rfl, rfl⟩)
    | (go_at_call 29; (with_reducible refine (parse29 A1 c1 d w1 (by omega) hc1 (H2.out.below hb1) _ _ _ _ HD.out).mono ?_); rintro e w2 ⟨A2, c2, rfl, ho2, hb2⟩; have B2 := hb1.trans (hb2.mono hb1.size))
    | (go_at_call 36; (with_reducible refine (parse36 A1 c1 d w2 (by omega) hc1 (H2.out.below B2) _ _ _ _ HD.out).mono ?_); rintro e w3 ⟨A3, c3, rfl, ho3, hb3⟩; have B3 := B2.trans (hb3.mono B2.size))
    | (go_at_call 33; (with_reducible refine (apply33 A c base A1 _ c1 d most w3 _ (by omega) hc (H1.out.below B3) rfl (by omega) hc1 (H2.out.below B3) (by omega) HA.out).mono ?_); rintro e w4 ⟨v4, rfl, hw4, hb4⟩
       obtain ⟨A4, c4, rfl, _, _, hr4⟩ := WinB.readsN (n := out.length) hw4 rfl
       have B4 := B3.trans (hb4.mono B3.size))
    | (go_at_call 32; (with_reducible refine (apply32 A c base A1 _ c1 d most w4 _ (by omega) hc (H1.out.below B4) rfl (by omega) hc1 (H2.out.below B4) (by omega) HA.out).mono ?_); rintro e w5 ⟨v5, rfl, hw5, hb5⟩
       obtain ⟨A5, c5, rfl, _, _, hr5⟩ := WinB.readsN (n := out.length) hw5 rfl
       have B5 := B4.trans (hb5.mono B4.size)
       have ks := same_any A2 c2 ops A3 c3 ops w5 (by omega) (by omega) (ho2.below (hb3.trans ((hb4.trans (hb5.mono hb4.size)).mono hb3.size))) (ho3.below (hb4.trans (hb5.mono hb4.size)))
       rw [decide_eq_true (rfl : ops = ops)] at ks
       have R4 := Sl.below hr4 hb5
       have KS := Lib.hid ks
       clear ks)
    | (go_at_call 30; (with_reducible refine KS.out.mono ?_); rintro e w6 ⟨rfl, hb6⟩
       have e1 : (convert 22 9 (.slice A4 out.length c4)).run Try.prog w6 = .ok (.string (bstr out)) w6 := conv22 (R4.below hb6) rfl
       have e2 : (convert 22 9 (.slice A5 out.length c5)).run Try.prog w6 = .ok (.string (bstr out)) w6 := conv22 (Sl.below hr5 hb6) rfl))
  go_ret
  exact ⟨rfl, B5.trans (hb6.mono B5.size)⟩
end Go.Proofs.Ytpfjkappgdpfbaa
