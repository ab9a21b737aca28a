/- trovelaw4.SumJoins answers true at any two lists of bytes and any state. No condition. -/
import Derived.Test.YtpfjkappgdpfbaaSumL
import Derived.Test.YtpfjkappgdpfbaaSeat
import Derived.Test.YtpfjkappgdpfbaaSumQ
namespace Go.Proofs.Ytpfjkappgdpfbaa
open Go.RowKit
set_option maxRecDepth 100000
set_option maxHeartbeats 400000
theorem sumJoins_any (A : Option Addr) (cp : Nat) (l : List UInt8) (A2 : Option Addr) (cp2 : Nat) (m : List UInt8) (c : Nat) (hc : c < 4294967296) (w : World) (hA : Bs w A l) (hA2 : Bs w A2 m) :
    Calls Try.prog 6 #[.slice A l.length cp, .slice A2 m.length cp2, .int .u32 c] w fun e w' => e = .returned (.bool true) ∧ Below w.heap.size w w' := by
  by_cases h1 : 8000 < l.length
  · go_enter Try.func6, Try.ntmps6
    go_wp2_with (go_at_call 15; refine (known_any _).mono ?_; rintro e w1 ⟨rfl, hb1⟩)
    go_ret
    exact ⟨rfl, hb1⟩
  by_cases h2 : 8000 < m.length
  · go_enter Try.func6, Try.ntmps6
    go_wp2_with (go_at_call 15; refine (known_any _).mono ?_; rintro e w1 ⟨rfl, hb1⟩)
    go_ret
    exact ⟨rfl, hb1⟩
  go_enter Try.func6, Try.ntmps6
  have hl : l.length ≤ 8000 := by omega
  have hm : m.length ≤ 8000 := by omega
  have k1 : ∀ W, Bs W A l → Calls Try.prog 17 #[.slice A l.length cp] W _ := fun W h => adler_any A cp l W (by omega) h
  have k2 : ∀ W, Bs W A2 m → Calls Try.prog 17 #[.slice A2 m.length cp2] W _ := fun W h => adler_any A2 cp2 m W (by omega) h
  have k3 : ∀ W, Calls Try.prog 22 _ W _ := fun W => join_any (adlMore 1 l) (adlMore 1 m) m.length (adlMore_lt (by decide) _) (adlMore_lt (by decide) _) (by omega) W
  have k4 : ∀ W, Calls Try.prog 22 #[.int .u32 (adlMore 1 l : Nat), .int .u32 1, .int .i64 0] W _ := fun W => join_any (adlMore 1 l) 1 0 (adlMore_lt (by decide) _) (by decide) (by omega) W
  have k5 : ∀ W, Bs W A l → Calls Try.prog 19 #[.slice A l.length cp] W _ := fun W h => adlerR_any A cp l W (by omega) h
  have k6 : ∀ W, Bs W A2 m → Calls Try.prog 19 #[.slice A2 m.length cp2] W _ := fun W h => adlerR_any A2 cp2 m W (by omega) h
  have k7 : ∀ W, Bs W A l → Calls Try.prog 20 #[.int .u32 c, .slice A l.length cp] W _ := fun W h => crcMore_any c hc A cp l W (by omega) h
  have k8 : ∀ W, Bs W A l → Calls Try.prog 23 #[.int .u32 c, .slice A l.length cp] W _ := fun W h => moreR_any c hc A cp l W (by omega) h
  have k9 : ∀ W, Calls Try.prog 24 _ W _ := fun W => joinR_any (adlMore 1 l) (adlMore 1 m) m.length (adlMore_lt (by decide) _) (adlMore_lt (by decide) _) (by omega) W
  have k10 : ∀ W A3 c3, Bs W A3 (l ++ m) → Calls Try.prog 19 #[.slice A3 (l ++ m).length c3] W _ := fun W A3 c3 h => adlerR_any A3 c3 (l ++ m) W (by simp; omega) h
  rw [crcMoreR_eq] at k8
  rw [adl_join] at k3 k9
  rw [join_one] at k4
  simp only [List.length_append] at k10
  go_wp2_with (first
    | (go_at_call 15; refine (known_any _).mono ?_; rintro e w1 ⟨rfl, hb1⟩)
    | (at_builtin; refine app22 rfl (.tmp 18) (.tmp 19) rfl w.heap.size _ [] rfl (Own.empty hb1.size) A cp l rfl ((hA.below hb1).below ((Below.refl _ _).alloc (Nat.le_refl _) _)) (by simp; omega) (by simp; exact Nat.le_succ_of_le hb1.size) ?_; intro v2 w2 hown2 hg2)
    | (at_builtin; have tok := hown2; refine app22 rfl (.tmp 20) (.tmp 21) rfl w.heap.size v2 l rfl hown2 A2 cp2 m rfl (hA2.below (Below.app (hb1.alloc hb1.size _) (Own.empty (e := 5) hb1.size) hg2 (Nat.le_trans hb1.size (by simp)))) (by omega) (Nat.le_trans hb1.size (Nat.le_trans (by simp) hg2.size)) ?_; intro v3 w3 hown3 hg3
       have hB3 := Below.app (Below.app (hb1.alloc hb1.size _) (Own.empty (e := 5) hb1.size) hg2 (Nat.le_trans hb1.size (by simp))) hown2 hg3 (Nat.le_trans hb1.size (Nat.le_trans (by simp) hg2.size))
       obtain ⟨A3, c3, rfl, _, hA3⟩ := hown3.reads
       clear hown3 hown2 hg2 hg3 tok)
    | (go_at_call 17; first
       | (with_reducible refine (k1 _ (hA.below hB3)).mono ?_; rintro e w' ⟨rfl, rfl⟩)
       | (with_reducible refine (k2 _ (hA2.below hB3)).mono ?_; rintro e w' ⟨rfl, rfl⟩))
    | (go_at_call 22; first
       | (with_reducible refine (k3 _).mono ?_; rintro e w' ⟨rfl, rfl⟩)
       | (with_reducible refine (k4 _).mono ?_; rintro e w' ⟨rfl, rfl⟩))
    | (go_at_call 19; first
       | (with_reducible refine (k10 _ A3 c3 hA3).mono ?_; rintro e w' ⟨rfl, rfl⟩)
       | (with_reducible refine (k5 _ (hA.below hB3)).mono ?_; rintro e w' ⟨rfl, rfl⟩)
       | (with_reducible refine (k5 _ (hA.below hB4)).mono ?_; rintro e w' ⟨rfl, rfl⟩)
       | (with_reducible refine (k6 _ (hA2.below hB4)).mono ?_; rintro e w' ⟨rfl, rfl⟩))
    | (go_at_call 20; with_reducible refine (k7 _ (hA.below hB3)).mono ?_; rintro e w4 ⟨rfl, hb4⟩; have hB4 := hB3.trans (hb4.mono hB3.size))
    | (go_at_call 23; with_reducible refine (k8 _ (hA.below hB4)).mono ?_; rintro e w' ⟨rfl, rfl⟩)
    | (go_at_call 24; with_reducible refine (k9 _).mono ?_; rintro e w' ⟨rfl, rfl⟩))
  go_ret
  exact ⟨rfl, hB4⟩
theorem sumJoins_go (A : Option Addr) (cp : Nat) (l : List UInt8) (A2 : Option Addr) (cp2 : Nat) (m : List UInt8) (c : Int) (hc : 0 ≤ c ∧ c ≤ 4294967295) (w : World) (hA : Bs w A l) (hA2 : Bs w A2 m) :
    Calls Try.prog 6 #[.slice A l.length cp, .slice A2 m.length cp2, .int .u32 c] w fun e w' => e = .returned (.bool true) ∧ Below w.heap.size w w' := by
  obtain ⟨n, rfl⟩ : ∃ n : Nat, c = n := ⟨c.toNat, by omega⟩
  exact sumJoins_any A cp l A2 cp2 m n (by omega) w hA hA2
end Go.Proofs.Ytpfjkappgdpfbaa
