/- trovelaw4.SumOnes answers true at any byte and any number. No condition. -/
import Derived.Test.YtpfjkappgdpfbaaSumL
import Derived.Test.YtpfjkappgdpfbaaSeat
import Derived.Test.YtpfjkappgdpfbaaSumQ
namespace Go.Proofs.Ytpfjkappgdpfbaa
open Go.RowKit
set_option maxRecDepth 100000
set_option maxHeartbeats 400000
theorem or16_i64 {a b : Nat} (ha : a < 65536) (hb : b < 65536) : bits .or .i64 ((a : Int) * 65536) (b : Int) = ((a * 65536 + b : Nat) : Int) := by
  have := bits_or_nat .i64 62 (by decide) (fun n h0 h1 => IntWalk.i64_in n (by omega)) (a := a * 65536) (b := b) (by omega) (by omega)
  rw [or_join (i := 16) (by omega)] at this
  rw [← this]; rfl
theorem ones_end (k x y z : Nat) (X Z : Int) (hX : X = (x : Int)) (hZ : Z = (z : Int)) (hy : y = adlOf ((1 + x) % 65521, (k + z) % 65521)) :
    bits .or .i64 (((k : Int) + Z) % 65521 * 65536) ((1 + X) % 65521) % 4294967296 = (y : Nat) := by
  subst hX hZ hy
  have h1 := Nat.mod_lt (1 + x) (y := 65521) (by decide)
  have h2 := Nat.mod_lt (k + z) (y := 65521) (by decide)
  have g1 : ((k : Int) + (z : Int)) % 65521 = (((k + z) % 65521 : Nat) : Int) := by omega
  have g2 : (1 + (x : Int)) % 65521 = (((1 + x) % 65521 : Nat) : Int) := by omega
  rw [g1, g2, or16_i64 (by omega) (by omega)]
  unfold adlOf
  simp only
  omega
theorem sumOnes_any (c : UInt8) (n : Int) (w : World) :
    Calls Try.prog 4 #[.int .u8 (c.toNat : Int), .int .i64 n] w fun e w' => e = .returned (.bool true) ∧ Below w.heap.size w w' := by
  by_cases h1 : n < 0
  · go_enter Try.func4, Try.ntmps4
    go_wp2_with (go_at_call 15; refine (known_any _).mono ?_; rintro e w1 ⟨rfl, hb1⟩)
    go_ret
    exact ⟨rfl, hb1⟩
  by_cases h2 : 6000 < n
  · go_enter Try.func4, Try.ntmps4
    go_wp2_with (go_at_call 15; refine (known_any _).mono ?_; rintro e w1 ⟨rfl, hb1⟩)
    go_ret
    exact ⟨rfl, hb1⟩
  obtain ⟨n, rfl⟩ : ∃ k : Nat, n = k := ⟨n.toNat, by omega⟩
  obtain ⟨i0, hi, hz0, hz1, hz2⟩ := info_parts Try.info5
  have hmb : i0.bytes * n ≤ 281474976710656 := by rw [hz2]; omega
  have hn : n ≤ 6000 := by omega
  have HZ := Lib.hid hz2
  clear hz2
  go_enter Try.func4, Try.ntmps4
  go_wp2_with (first
    | (go_at_call 15; refine (known_any _).mono ?_; rintro e w1 ⟨rfl, hb1⟩)
    | (at_make; refine wpList_make_full _ rfl (.tmp 17) (.tmp 17) 22 rfl w.heap.size 5 i0 (.int .u8 0) 1 Try.underlying22 hi hz0 hz1 .i64 .i64 n n n rfl rfl rfl rfl hmb (by unfold maxLen; omega) hb1.size ?_; intro w2 hown2 hg2))
  have hfull : bvs (List.replicate n 0) = (madeCells (Value.int .u8 0).cells (n * 1)).toList := by
    rw [Nat.mul_one, show (Value.int .u8 0).cells = #[.int .u8 0] from rfl, toList_madeCells_one]
    simp [bvs, bv]
  have HF := Lib.hid hfull
  have hb2 := hb1.trans (Below.mono (Below.grown (Below.refl w1.heap.size w1) hg2 (Nat.le_refl _) (fun k hk => by cases hk)) hb1.size)
  have hgs : w.heap.size ≤ w1.heap.size := hb1.size
  obtain ⟨g, hgg⟩ : ∃ g, g = w1.heap.size := ⟨_, rfl⟩
  rw [← hgg] at hown2 hgs ⊢
  clear hfull hi hz0 hz1 hmb HZ hg2 hgg
  go_loopw [6] (fun i wr => ∃ k : Nat, k ≤ n ∧ i = .int .i64 k ∧ wr.ownsRow w.heap.size 5 1 (.slice (some ⟨g, 0, none⟩) n n) n (bvs (List.replicate k c ++ List.replicate (n - k) 0)) ∧ Below w.heap.size w wr) (fun i _ => n - (intOf i).toNat)
  case atStart => exact ⟨0, by omega, rfl, by rw [List.replicate_zero, List.nil_append, Nat.sub_zero, HF.out]; exact hown2, hb2⟩
  case round =>
    clear hown2 hb2
    obtain ⟨k, hk, rfl, hown, hb⟩ := hrel
    by_cases hlt : k < n
    · have hc : wr.cell? ⟨g, k, none⟩ = some (.int .u8 0) := by
        rw [hown.cellAt k (by omega)]; simp [bvs, bv, show 0 < n - k by omega]
      have hf := hown.frozenAt k
      have hst := (hown.stored k (.int .u8 c.toNat)).1
      have HS := Lib.hid hst
      have HO := Lib.hid hown
      clear hst hown
      go_wp2
      go_roundw
      case rel =>
        refine ⟨k + 1, by omega, by go_num, ?_, Below.setCell ‹_› (by simpa using hgs) _⟩
        have := HS.out
        rwa [show (bvs (List.replicate k c ++ List.replicate (n - k) 0)).set k (.int .u8 c.toNat) = bvs (List.replicate (k + 1) c ++ List.replicate (n - (k + 1)) 0) by
          rw [show n - k = (n - (k + 1)) + 1 by omega, List.replicate_succ, List.replicate_succ', List.append_assoc]
          simp [bvs, bv]] at this
      case measure => simp [intOf]; omega
    · obtain rfl : k = n := by omega
      rw [Nat.sub_self, List.replicate_zero, List.append_nil] at hown
      have hO : Own wr w.heap.size 5 (.slice (some ⟨g, 0, none⟩) k k) (List.replicate k c) := by rw [Own, List.length_replicate]; exact hown
      obtain ⟨A, c2, he, _, hA⟩ := hO.reads
      rw [List.length_replicate] at he
      injection he with he1 _ he2
      rw [← he1] at hA
      clear he1 he2
      have hcl := c.toNat_lt
      have e1 : ((k * c.toNat : Nat) : Int) = (k : Int) * (c.toNat : Int) := Int.natCast_mul _ _
      have e2 : ((k * (k + 1) : Nat) : Int) = (k : Int) * ((k : Int) + 1) := Int.natCast_mul _ _
      have e3 : ((c.toNat * (k * (k + 1) / 2) : Nat) : Int) = (c.toNat : Int) * ((k : Int) * ((k : Int) + 1) / 2) := by rw [Int.natCast_mul, ← e2]; rfl
      have b1 : k * c.toNat ≤ 1530000 := Nat.le_trans (Nat.mul_le_mul hn (show c.toNat ≤ 255 by omega)) (by decide)
      have b2 : k * (k + 1) ≤ 36006000 := Nat.le_trans (Nat.mul_le_mul hn (show k + 1 ≤ 6001 by omega)) (by decide)
      have b3 : c.toNat * (k * (k + 1) / 2) ≤ 4590765000 := Nat.le_trans (Nat.mul_le_mul (show c.toNat ≤ 255 by omega) (show k * (k + 1) / 2 ≤ 18003000 by omega)) (by decide)
      have a1 : 0 ≤ (k : Int) * (c.toNat : Int) := by rw [← e1]; omega
      have a2 : (k : Int) * (c.toNat : Int) ≤ 1530000 := by rw [← e1]; omega
      have a3 : 0 ≤ (k : Int) * ((k : Int) + 1) := by rw [← e2]; omega
      have a4 : (k : Int) * ((k : Int) + 1) ≤ 36006000 := by rw [← e2]; omega
      have a5 : 0 ≤ (c.toNat : Int) * ((k : Int) * ((k : Int) + 1) / 2) := by rw [← e3]; omega
      have a6 : (c.toNat : Int) * ((k : Int) * ((k : Int) + 1) / 2) ≤ 4590765000 := by rw [← e3]; omega
      have hend : bits .or .i64 (((k : Int) + (c.toNat : Int) * ((k : Int) * ((k : Int) + 1) / 2)) % 65521 * 65536) ((1 + (k : Int) * (c.toNat : Int)) % 65521) % 4294967296 = (adlMore 1 (List.replicate k c) : Nat) :=
        ones_end k _ _ _ _ _ e1.symm e3.symm (by rw [adlMore_one, adl_ones])
      have k1 : ∀ W, Bs W (some ⟨g, 0, none⟩) (List.replicate k c) → Calls Try.prog 17 #[.slice (some ⟨g, 0, none⟩) (List.replicate k c).length k] W _ := fun W h => adler_any (some ⟨g, 0, none⟩) k (List.replicate k c) W (by simp; omega) h
      have k2 : ∀ W, Bs W (some ⟨g, 0, none⟩) (List.replicate k c) → Calls Try.prog 16 #[.slice (some ⟨g, 0, none⟩) (List.replicate k c).length k] W _ := fun W h => crc_any (some ⟨g, 0, none⟩) k (List.replicate k c) W (by simp; omega) h
      have k3 : ∀ W, Bs W (some ⟨g, 0, none⟩) (List.replicate k c) → Calls Try.prog 18 #[.slice (some ⟨g, 0, none⟩) (List.replicate k c).length k] W _ := fun W h => crcR_any (some ⟨g, 0, none⟩) k (List.replicate k c) W (by simp; omega) h
      rw [List.length_replicate] at k1 k2 k3
      rw [crcMoreR_eq] at k3
      clear e1 e2 e3 b1 b2 b3 hown hO
      go_wp2_with (first
        | (go_at_call 17; with_reducible refine (k1 _ hA).mono ?_; rintro e w' ⟨rfl, rfl⟩)
        | (go_at_call 16; with_reducible refine (k2 _ hA).mono ?_; rintro e w4 ⟨rfl, hb4⟩)
        | (go_at_call 18; with_reducible refine (k3 _ (hA.below hb4)).mono ?_; rintro e w' ⟨rfl, rfl⟩))
      go_ret
      exact ⟨rfl, Below.trans ‹Below w.heap.size w wr› (hb4.mono (Below.size ‹Below w.heap.size w wr› |> Nat.le_trans (Nat.le_refl _)))⟩
theorem sumOnes_go (c : Int) (hc : 0 ≤ c ∧ c ≤ 255) (n : Int) (w : World) :
    Calls Try.prog 4 #[.int .u8 c, .int .i64 n] w fun e w' => e = .returned (.bool true) ∧ Below w.heap.size w w' := by
  have := sumOnes_any (UInt8.ofNat c.toNat) n w
  rwa [show ((UInt8.ofNat c.toNat).toNat : Int) = c by simp; omega] at this
end Go.Proofs.Ytpfjkappgdpfbaa
