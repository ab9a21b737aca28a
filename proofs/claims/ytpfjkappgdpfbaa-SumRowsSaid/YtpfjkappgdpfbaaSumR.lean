/- trovelaw4.SumRows answers true at any parts. No condition. -/
import Derived.Test.YtpfjkappgdpfbaaSumL
import Derived.Test.YtpfjkappgdpfbaaSumQ
namespace Go.Proofs.Ytpfjkappgdpfbaa
open Go.RowKit
set_option maxRecDepth 100000
set_option maxHeartbeats 400000
theorem flat_succ {α : Type} (ls : List (List α)) (k : Nat) (h : k < ls.length) : (ls.take (k + 1)).flatten = (ls.take k).flatten ++ ls[k] := by
  rw [List.take_succ_eq_append_getElem h, List.flatten_append]; simp
theorem sumRows_any (A : Option Addr) (cp : Nat) (ls : List (List UInt8)) (w : World) (hR : Rws w A ls) (hln : ls.length ≤ 9223372036854775807) :
    Calls Try.prog 7 #[.slice A ls.length cp] w fun e w' => e = .returned (.bool true) ∧ Below w.heap.size w w' := by
  by_cases h1 : 30 < ls.length
  · go_enter Try.func7, Try.ntmps7
    go_wp2_with (go_at_call 15; refine (known_any _).mono ?_; rintro e w1 ⟨rfl, hb1⟩)
    go_ret
    exact ⟨rfl, hb1⟩
  have c0 : crcMore 0 [] = 0 := by decide
  have c1 : adlMore 1 [] = 1 := by decide
  have C0 := Lib.hid c0; have C1 := Lib.hid c1; clear c0 c1
  go_enter Try.func7, Try.ntmps7
  go_wp2_with (first
    | (go_at_call 15; refine (known_any _).mono ?_; rintro e w1 ⟨rfl, hb1⟩)
    | (go_at_call 16; refine (crc_any none 0 [] _ (by simp) (Sl.nil _ _)).mono ?_; rintro e w2 ⟨rfl, hb2⟩)
    | (go_at_call 17; refine (adler_any none 0 [] _ (by simp) (Sl.nil _ _)).mono ?_; rintro e w3 ⟨rfl, rfl⟩))
  have hB2 := hb1.trans (hb2.mono hb1.size)
  clear hb1 hb2
  go_loopw [3, 4, 5, 6, 7] (fun c a j v i wr => ∃ k : Nat, k ≤ ls.length ∧ i = .int .i64 k ∧ c = .int .u32 (crcMore 0 (ls.take k).flatten : Nat) ∧ a = .int .u32 (adlMore 1 (ls.take k).flatten : Nat) ∧ j = .int .u32 (adlMore 1 (ls.take k).flatten : Nat) ∧
      (ls.take k).flatten.length ≤ k * 300 ∧ Own wr w.heap.size 5 v (ls.take k).flatten ∧ Below w.heap.size w wr) (fun _ _ _ _ i _ => ls.length - (intOf i).toNat)
  case atStart => exact ⟨0, by omega, rfl, rfl, rfl, rfl, by simp, World.ownsRow_nil _ _ _ _, hB2⟩
  case round =>
    obtain ⟨k, hk, rfl, rfl, rfl, rfl, hle, hown, hb⟩ := hrel
    clear hB2
    by_cases hlt : k < ls.length
    · obtain ⟨ad, Aj, cj, rfl, hc, hcj, hAj⟩ := hR k ls[k] (by simp [hlt])
      have hcw := (hb.cell (World.block_lt_of_cell? w _ hc)).trans hc
      have hAw := hAj.below hb
      have hf := flat_succ ls k hlt
      obtain ⟨f, hfe⟩ : ∃ f, f = (ls.take k).flatten := ⟨_, rfl⟩
      obtain ⟨r, hre⟩ : ∃ r, r = ls[k] := ⟨_, rfl⟩
      rw [← hfe, ← hre] at hf
      rw [← hfe] at hle hown ⊢
      rw [← hre] at hc hcj hAj hcw hAw
      have HF := Lib.hid hf
      clear hf hfe hre hc hAj
      by_cases h3 : 300 < r.length
      · go_wp2
        go_ret
        exact ⟨rfl, hb⟩
      · have kr : ∀ W, Bs W Aj r → Calls Try.prog 17 #[.slice Aj r.length cj] W _ := fun W h => adler_any Aj cj r W (by omega) h
        have kc : ∀ W, Bs W Aj r → Calls Try.prog 20 #[.int .u32 (crcMore 0 f : Nat), .slice Aj r.length cj] W _ := fun W h => crcMore_any (crcMore 0 f) (crcMore_lt _ _) Aj cj r W (by omega) h
        have ka : ∀ W, Bs W Aj r → Calls Try.prog 21 #[.int .u32 (adlMore 1 f : Nat), .slice Aj r.length cj] W _ := fun W h => adlerMore_any (adlMore 1 f) (adlMore_lt (by decide) _) Aj cj r W (by omega) h
        have kj : ∀ W, Calls Try.prog 22 #[.int .u32 (adlMore 1 f : Nat), .int .u32 (adlMore 1 r : Nat), .int .i64 (r.length : Nat)] W _ := fun W => join_any (adlMore 1 f) (adlMore 1 r) r.length (adlMore_lt (by decide) _) (adlMore_lt (by decide) _) (by omega) W
        rw [crcMore_append] at kc
        rw [adlMore_append] at ka
        rw [adl_join] at kj
        go_wp2_with (first
          | (go_at_call 20; with_reducible refine (kc _ hAw).mono ?_; rintro e w4 ⟨rfl, hb4⟩; have hB4 := hb.trans (hb4.mono hb.size); have hc4 := (hb4.cell (World.block_lt_of_cell? _ _ hcw)).trans hcw; have hA4 := hAw.below hb4)
          | (go_at_call 21; with_reducible refine (ka _ hA4).mono ?_; rintro e w' ⟨rfl, rfl⟩))
        go_quiet (first
          | (go_at_call 17; exact quietN (kr _ hA4))
          | (go_at_call 22; exact quietN (kj _)))
        have hO4 : Own (w4.drewN nq) w.heap.size 5 u6 f := ownsRow_below (ownsRow_below hown hb4) (Below.drewN (Below.refl _ _) nq)
        have hB5 : Below w.heap.size w (w4.drewN nq) := Below.drewN hB4 nq
        have hA5 : Bs (w4.drewN nq) Aj r := hA4
        have hc5 : (w4.drewN nq).cell? (ad.add k) = some (.slice Aj r.length cj) := hc4
        obtain ⟨w5, hw5⟩ : ∃ w5, w5 = w4.drewN nq := ⟨_, rfl⟩
        rw [← hw5] at hO4 hB5 hA5 hc5 ⊢
        clear hown hb hB4 hA4 hc4 hb4 hw5 hcw hAw kr kc ka kj
        have k1 : ∀ W A3 c3, Bs W A3 (f ++ r) → Calls Try.prog 18 #[.slice A3 (f ++ r).length c3] W _ := fun W A3 c3 h => crcR_any A3 c3 (f ++ r) W (by simp; omega) h
        have k2 : ∀ W A3 c3, Bs W A3 (f ++ r) → Calls Try.prog 19 #[.slice A3 (f ++ r).length c3] W _ := fun W A3 c3 h => adlerR_any A3 c3 (f ++ r) W (by simp; omega) h
        rw [crcMoreR_eq] at k1
        simp only [List.length_append] at k1 k2
        go_wp2_with (first
          | (at_builtin; refine app22 rfl (.tmp 52) (.tmp 56) rfl w.heap.size _ f rfl hO4 Aj cj r rfl hA5 (by omega) hB5.size ?_; intro v6 w6 hown6 hg6
             have hB6 := Below.app hB5 hO4 hg6 hB5.size
             have O6 := Lib.hid hown6
             obtain ⟨A3, c3, rfl, _, hA3⟩ := hown6.reads)
          | (go_at_call 18; with_reducible refine (k1 _ A3 c3 hA3).mono ?_; rintro e w' ⟨rfl, rfl⟩)
          | (go_at_call 19; with_reducible refine (k2 _ A3 c3 hA3).mono ?_; rintro e w' ⟨rfl, rfl⟩))
        go_roundw
        case rel => exact ⟨k + 1, by omega, by go_num, by rw [HF.out], by rw [HF.out], by rw [HF.out], by rw [HF.out, List.length_append]; omega, by rw [HF.out]; have := O6.out; rwa [Own, List.length_append] at this ⊢, hB6⟩
        case measure => simp [intOf]; omega
    · obtain rfl : k = ls.length := by omega
      rw [List.take_length] at hle hown ⊢
      obtain ⟨A3, c3, rfl, _, hA3⟩ := hown.reads
      obtain ⟨f, hfe⟩ : ∃ f, f = ls.flatten := ⟨_, rfl⟩
      rw [← hfe] at hle hA3 ⊢
      have k1 : ∀ W, Bs W A3 f → Calls Try.prog 16 #[.slice A3 f.length c3] W _ := fun W h => crc_any A3 c3 f W (by omega) h
      have k2 : ∀ W, Bs W A3 f → Calls Try.prog 17 #[.slice A3 f.length c3] W _ := fun W h => adler_any A3 c3 f W (by omega) h
      clear hown hfe
      go_wp2_with (first
        | (go_at_call 16; with_reducible refine (k1 _ hA3).mono ?_; rintro e w4 ⟨rfl, hb4⟩)
        | (go_at_call 17; with_reducible refine (k2 _ (hA3.below hb4)).mono ?_; rintro e w' ⟨rfl, rfl⟩))
      go_ret
      exact ⟨rfl, hb.trans (hb4.mono hb.size)⟩
end Go.Proofs.Ytpfjkappgdpfbaa
