/- The readers of sizes compute DelP's size. Condition: a list of bytes has at most 2^40 of them. -/
import Derived.Test.YtpfjkappgdpfbaaDelW
namespace Go.Proofs.Ytpfjkappgdpfbaa
open Go.RowKit
set_option maxRecDepth 100000
set_option maxHeartbeats 400000
theorem u8_and127 (c : UInt8) : bits .and .u8 (c.toNat : Int) 127 = ((c.toNat % 128 : Nat) : Int) := by
  have hc := c.toNat_lt
  have := (bits_nat .u8 8 (by decide) (fun n h0 h1 => IntWalk.u8_in n (by omega)) c.toNat (2 ^ 7 - 1) hc (by decide)).1
  rw [Nat.and_two_pow_sub_one_eq_mod] at this
  exact this
theorem pow_7 {k : Nat} (hk : k ≤ 8) : 2 ^ (7 * k) ≤ 72057594037927936 := by
  have : 2 ^ (7 * k) ≤ 2 ^ 56 := Nat.pow_le_pow_right (by decide) (by omega)
  simpa using this
theorem mul_pow {x k : Nat} (hx : x < 128) (hk : k ≤ 8) : x * 2 ^ (7 * k) < 9223372036854775808 := by
  have h1 := pow_7 hk
  have h2 : x * 2 ^ (7 * k) ≤ 127 * 2 ^ (7 * k) := Nat.mul_le_mul_right _ (by omega)
  omega
theorem size_bits {acc x k : Nat} (ha : acc < 2 ^ (7 * k)) (hx : x < 128) (hk : k ≤ 8) : bits .or .i64 (acc : Int) (wrap64 ((x : Int) * 2 ^ (7 * k))) = ((acc ||| x * 2 ^ (7 * k) : Nat) : Int) ∧ acc ||| x * 2 ^ (7 * k) < 2 ^ (7 * (k + 1)) ∧ acc ||| x * 2 ^ (7 * k) < 9223372036854775808 := by
  have h1 := mul_pow hx hk
  have h2 := pow_7 hk
  have e : (x : Int) * 2 ^ (7 * k) = ((x * 2 ^ (7 * k) : Nat) : Int) := by rw [Int.natCast_mul, Int.natCast_pow]; rfl
  have h3 : 2 ^ (7 * (k + 1)) = 128 * 2 ^ (7 * k) := by rw [Nat.mul_add, Nat.pow_add]; omega
  have h4 : x * 2 ^ (7 * k) ≤ 127 * 2 ^ (7 * k) := Nat.mul_le_mul_right _ (by omega)
  refine ⟨?_, ?_, ?_⟩
  · rw [e, IntWalk.wrap64_in _ (by omega)]
    exact bits_or_nat .i64 63 (by decide) (fun n h0 h1 => IntWalk.i64_in n (by omega)) (by omega) h1
  · rw [or_add _ ha]; omega
  · rw [or_add _ ha]; omega
theorem size_any (A : Option Addr) (c : Nat) (l : List UInt8) (w : World) (hl : l.length ≤ 1099511627776) (hA : Bs w A l) :
    Calls Try.prog 61 #[.slice A l.length c] w fun e w' => e = .returned (.tuple #[.int .i64 (size l).1, .int .i64 (size l).2.1, .int .i64 (size l).2.2]) ∧ w = w' := by
  go_enter Try.func61, Try.ntmps61
  go_wp2
  go_loop [2, 9] (fun v i => ∃ k acc : Nat, k ≤ l.length ∧ k ≤ 9 ∧ i = .int .i64 k ∧ v = .int .i64 acc ∧ acc < 2 ^ (7 * k) ∧ sizeR (l.drop k) k acc = size l) (fun _ i => l.length - (intOf i).toNat)
  case atStart => exact ⟨0, 0, by omega, by omega, rfl, rfl, by decide, rfl⟩
  case round =>
    obtain ⟨k, acc, hk, hk9, rfl, rfl, hacc, hs⟩ := hrel
    by_cases hlt : k < l.length
    · obtain ⟨ad, rfl, hc⟩ := hA.at hlt
      have hcl := l[k].toNat_lt
      rw [List.drop_eq_getElem_cons hlt, sizeR] at hs
      by_cases h9 : k = 9
      · have hd : ((k : Int) == 9) = true := by simp [h9]
        rw [if_pos h9] at hs
        have HS := Lib.hid hs; clear hs hacc h9
        go_wp2
        go_ret3
        rw [← HS.out]
        exact ⟨rfl, rfl⟩
      · have hk8 : k ≤ 8 := by omega
        have hx : l[k].toNat % 128 < 128 := Nat.mod_lt _ (by decide)
        have hm := u8_and127 l[k]
        rw [if_neg h9] at hs
        obtain ⟨hbits, hlt2, hb63⟩ := size_bits hacc hx hk8
        obtain ⟨x, hxe⟩ : ∃ x, x = l[k].toNat % 128 := ⟨_, rfl⟩
        rw [← hxe] at hm hs hx hbits hlt2 hb63
        obtain ⟨y, hye⟩ : ∃ y, y = acc ||| x * 2 ^ (7 * k) := ⟨_, rfl⟩
        rw [← hye] at hs hbits hlt2 hb63
        clear hxe hye hacc
        have HL := Lib.hid hlt2; clear hlt2
        by_cases h128 : l[k].toNat < 128
        · rw [if_pos h128] at hs
          have HS := Lib.hid hs; clear hs
          go_wp2
          go_ret3
          rw [← HS.out]
          exact ⟨rfl, rfl⟩
        · rw [if_neg h128] at hs
          have HS := Lib.hid hs; clear hs
          go_wp2
          go_round
          case rel => exact ⟨k + 1, y, by omega, by omega, by go_num, rfl, HL.out, HS.out⟩
          case measure => simp [intOf]; omega
    · obtain rfl : k = l.length := by omega
      rw [List.drop_length, sizeR] at hs
      clear hacc
      by_cases h9 : 9 ≤ l.length
      · rw [if_pos h9] at hs
        have HS := Lib.hid hs; clear hs
        go_wp2
        go_ret3
        rw [← HS.out]
        exact ⟨rfl, rfl⟩
      · rw [if_neg h9] at hs
        have HS := Lib.hid hs; clear hs
        go_wp2
        go_ret3
        rw [← HS.out]
        exact ⟨rfl, rfl⟩
theorem sizeRef_any (A : Option Addr) (c : Nat) (l : List UInt8) (w : World) (hl : l.length ≤ 1099511627776) (hA : Bs w A l) :
    Calls Try.prog 59 #[.slice A l.length c] w fun e w' => e = .returned (.tuple #[.int .i64 (size l).1, .int .i64 (size l).2.1, .int .i64 (size l).2.2]) ∧ w = w' := by
  go_enter Try.func59, Try.ntmps59
  go_wp2
  go_loop [5, 6] (fun v i => ∃ k acc : Nat, k ≤ l.length ∧ k ≤ 9 ∧ i = .int .i64 k ∧ v = .int .i64 acc ∧ acc < 2 ^ (7 * k) ∧ sizeR (l.drop k) k acc = size l) (fun _ i => 9 - (intOf i).toNat)
  case atStart => exact ⟨0, 0, by omega, by omega, rfl, rfl, by decide, rfl⟩
  case round =>
    obtain ⟨k, acc, hk, hk9, rfl, rfl, hacc, hs⟩ := hrel
    by_cases h9 : k = 9
    · subst h9
      have hs' : size l = (0, 0, 5) := by
        rw [← hs]
        rcases Nat.lt_or_ge 9 l.length with h | h
        · rw [List.drop_eq_getElem_cons h, sizeR, if_pos rfl]
        · rw [List.drop_eq_nil_of_le h, sizeR, if_pos (Nat.le_refl _)]
      have HS := Lib.hid hs'; clear hs hs' hacc
      go_wp2
      go_ret3
      rw [HS.out]
      exact ⟨rfl, rfl⟩
    · by_cases hlt : k < l.length
      · obtain ⟨ad, rfl, hc⟩ := hA.at hlt
        have hcl := l[k].toNat_lt
        have hk8 : k ≤ 8 := by omega
        rw [List.drop_eq_getElem_cons hlt, sizeR, if_neg h9] at hs
        have hx : l[k].toNat % 128 < 128 := Nat.mod_lt _ (by decide)
        have hm := u8_and127 l[k]
        obtain ⟨hbits, hlt2, hb63⟩ := size_bits hacc hx hk8
        obtain ⟨x, hxe⟩ : ∃ x, x = l[k].toNat % 128 := ⟨_, rfl⟩
        rw [← hxe] at hm hs hx hbits hlt2 hb63
        obtain ⟨y, hye⟩ : ∃ y, y = acc ||| x * 2 ^ (7 * k) := ⟨_, rfl⟩
        rw [← hye] at hs hbits hlt2 hb63
        clear hxe hye hacc
        have HL := Lib.hid hlt2; clear hlt2
        by_cases h128 : l[k].toNat < 128
        · rw [if_pos h128] at hs
          have HS := Lib.hid hs; clear hs
          go_wp2
          go_ret3
          rw [← HS.out]
          exact ⟨rfl, rfl⟩
        · rw [if_neg h128] at hs
          have HS := Lib.hid hs; clear hs
          go_wp2
          go_round
          case rel => exact ⟨k + 1, y, by omega, by omega, by go_num, rfl, HL.out, HS.out⟩
          case measure => simp [intOf]; omega
      · obtain rfl : k = l.length := by omega
        rw [List.drop_length, sizeR, if_neg (by omega)] at hs
        have HS := Lib.hid hs; clear hs hacc
        go_wp2
        go_ret3
        rw [← HS.out]
        exact ⟨rfl, rfl⟩
theorem sizeR_ok : ∀ (l : List UInt8) (i acc b n : Nat), i ≤ 9 → acc < 2 ^ (7 * i) → sizeR l i acc = (b, n, 0) → n ≤ i + l.length ∧ i < n ∧ b < 9223372036854775808
  | [], i, acc, b, n, hi, ha, h => by
    simp only [sizeR] at h
    split at h <;> cases h
  | c :: l, i, acc, b, n, hi, ha, h => by
    rw [sizeR] at h
    by_cases h9 : i = 9
    · rw [if_pos h9] at h; cases h
    · rw [if_neg h9] at h
      obtain ⟨_, h2, h3⟩ := size_bits (x := c.toNat % 128) ha (Nat.mod_lt _ (by decide)) (by omega)
      by_cases hc : c.toNat < 128
      · rw [if_pos hc] at h
        cases h
        exact ⟨by simp, by omega, h3⟩
      · rw [if_neg hc] at h
        have := sizeR_ok l (i + 1) _ b n (by omega) h2 h
        simp only [List.length_cons]
        omega
theorem size_ok {l : List UInt8} {b n : Nat} (h : size l = (b, n, 0)) : n ≤ l.length ∧ 0 < n ∧ b < 9223372036854775808 := by
  have := sizeR_ok l 0 0 b n (by omega) (by decide) h
  omega
theorem results_tmp4 {fn : Func} {t u v x : Tmp} (h : fn.results = #[.tmp t, .tmp u, .tmp v, .tmp x]) (tmps : Array Value) (P : Program) (w : World) :
    (results fn tmps).run P w = .ok (.tuple #[tmps.getD t undef, tmps.getD u undef, tmps.getD v undef, tmps.getD x undef]) w := by simp [results, h]
theorem sizes_any (A : Option Addr) (c : Nat) (l : List UInt8) (w : World) (hl : l.length ≤ 1099511627776) (hc : l.length ≤ c) (hA : Bs w A l) :
    Calls Try.prog 48 #[.slice A l.length c] w fun e w' => e = .returned (.tuple #[.int .i64 (sizesR l).1, .int .i64 (sizesR l).2.1, .int .i64 (sizesR l).2.2.1, .int .i64 (sizesR l).2.2.2]) ∧ w = w' := by
  rcases h1 : size l with ⟨b, n, e⟩
  have k1 := size_any A c l w hl hA
  rw [h1] at k1
  simp only at k1
  by_cases he : e = 0
  · subst he
    obtain ⟨hn, hn0, hb⟩ := size_ok h1
    rcases h2 : size (l.drop n) with ⟨o, m, f⟩
    have hD := Bs.cut hA n c hc
    have k2 := size_any (cutA A c n 1) (c - n) (l.drop n) w (by simp; omega) hD
    rw [h2, List.length_drop] at k2
    simp only at k2
    have hs := slice_from22 A l.length c n hn
    have hR : sizesR l = if f = 0 then (b, o, n + m, 0) else (0, 0, 0, f) := by unfold sizesR; rw [h1]; simp only [if_true]; rw [h2]
    have HR := Lib.hid hR; have H1 := Lib.hid h1; have H2 := Lib.hid h2
    clear h1 h2 hR
    by_cases hf : f = 0
    · subst hf
      obtain ⟨hm, _, ho⟩ := size_ok H2.out
      rw [List.length_drop] at hm
      rw [HR.out]
      go_enter Try.func48, Try.ntmps48
      go_wp2_with (go_at_call 61; first
        | (with_reducible refine k1.mono ?_; rintro e w' ⟨rfl, rfl⟩)
        | (with_reducible refine k2.mono ?_; rintro e w' ⟨rfl, rfl⟩))
      refine bodyPost_ret (results_tmp4 rfl _ _ _) rfl ?_
      exact ⟨rfl, rfl⟩
    · have hne : ((f : Int) != 0) = true := by simp [hf]
      have HF := Lib.hid hf; clear hf
      rw [HR.out, if_neg HF.out]
      go_enter Try.func48, Try.ntmps48
      go_wp2_with (go_at_call 61; first
        | (with_reducible refine k1.mono ?_; rintro e w' ⟨rfl, rfl⟩)
        | (with_reducible refine k2.mono ?_; rintro e w' ⟨rfl, rfl⟩))
      refine bodyPost_ret (results_tmp4 rfl _ _ _) rfl ?_
      exact ⟨rfl, rfl⟩
  · have hR : sizesR l = (0, 0, 0, e) := by unfold sizesR; rw [h1]; simp only; rw [if_neg he]
    have hne : ((e : Int) != 0) = true := by simp [he]
    have HF := Lib.hid he; clear he h1
    rw [hR]
    clear hR
    go_enter Try.func48, Try.ntmps48
    go_wp2_with (go_at_call 61; (with_reducible refine k1.mono ?_; rintro e w' ⟨rfl, rfl⟩))
    refine bodyPost_ret (results_tmp4 rfl _ _ _) rfl ?_
    exact ⟨rfl, rfl⟩
theorem sizesRef_any (A : Option Addr) (c : Nat) (l : List UInt8) (w : World) (hl : l.length ≤ 1099511627776) (hc : l.length ≤ c) (hA : Bs w A l) :
    Calls Try.prog 35 #[.slice A l.length c] w fun e w' => e = .returned (.tuple #[.int .i64 (sizesR l).1, .int .i64 (sizesR l).2.1, .int .i64 (sizesR l).2.2.1, .int .i64 (sizesR l).2.2.2]) ∧ w = w' := by
  rcases h1 : size l with ⟨b, n, e⟩
  have k1 := sizeRef_any A c l w hl hA
  rw [h1] at k1
  simp only at k1
  by_cases he : e = 0
  · subst he
    obtain ⟨hn, hn0, hb⟩ := size_ok h1
    rcases h2 : size (l.drop n) with ⟨o, m, f⟩
    have hD := Bs.cut hA n c hc
    have k2 := sizeRef_any (cutA A c n 1) (c - n) (l.drop n) w (by simp; omega) hD
    rw [h2, List.length_drop] at k2
    simp only at k2
    have hs := slice_from22 A l.length c n hn
    have hR : sizesR l = if f = 0 then (b, o, n + m, 0) else (0, 0, 0, f) := by unfold sizesR; rw [h1]; simp only [if_true]; rw [h2]
    have HR := Lib.hid hR; have H1 := Lib.hid h1; have H2 := Lib.hid h2
    clear h1 h2 hR
    by_cases hf : f = 0
    · subst hf
      obtain ⟨hm, _, ho⟩ := size_ok H2.out
      rw [List.length_drop] at hm
      rw [HR.out]
      go_enter Try.func35, Try.ntmps35
      go_wp2_with (go_at_call 59; first
        | (with_reducible refine k1.mono ?_; rintro e w' ⟨rfl, rfl⟩)
        | (with_reducible refine k2.mono ?_; rintro e w' ⟨rfl, rfl⟩))
      refine bodyPost_ret (results_tmp4 rfl _ _ _) rfl ?_
      exact ⟨rfl, rfl⟩
    · have hne : ((f : Int) != 0) = true := by simp [hf]
      have HF := Lib.hid hf; clear hf
      rw [HR.out, if_neg HF.out]
      go_enter Try.func35, Try.ntmps35
      go_wp2_with (go_at_call 59; first
        | (with_reducible refine k1.mono ?_; rintro e w' ⟨rfl, rfl⟩)
        | (with_reducible refine k2.mono ?_; rintro e w' ⟨rfl, rfl⟩))
      refine bodyPost_ret (results_tmp4 rfl _ _ _) rfl ?_
      exact ⟨rfl, rfl⟩
  · have hR : sizesR l = (0, 0, 0, e) := by unfold sizesR; rw [h1]; simp only; rw [if_neg he]
    have hne : ((e : Int) != 0) = true := by simp [he]
    have HF := Lib.hid he; clear he h1
    rw [hR]
    clear hR
    go_enter Try.func35, Try.ntmps35
    go_wp2_with (go_at_call 59; (with_reducible refine k1.mono ?_; rintro e w' ⟨rfl, rfl⟩))
    refine bodyPost_ret (results_tmp4 rfl _ _ _) rfl ?_
    exact ⟨rfl, rfl⟩
theorem sizesPub_any (A : Option Addr) (c : Nat) (l : List UInt8) (w : World) (hl : l.length ≤ 1099511627776) (hc : l.length ≤ c) (hA : Bs w A l) :
    Calls Try.prog 34 #[.slice A l.length c] w fun e w' => e = .returned (.tuple #[.int .i64 (sizesR l).1, .int .i64 (sizesR l).2.1, .int .i64 (sizesR l).2.2.2]) ∧ w = w' := by
  have k1 := sizes_any A c l w hl hc hA
  go_enter Try.func34, Try.ntmps34
  go_wp2_with (go_at_call 48; (with_reducible refine k1.mono ?_; rintro e w' ⟨rfl, rfl⟩))
  go_ret3
  exact ⟨rfl, rfl⟩
end Go.Proofs.Ytpfjkappgdpfbaa
