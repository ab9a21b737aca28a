/- trovelaw4.SumBytes answers true at any bytes and any cut. No condition. -/
import Derived.Test.YtpfjkappgdpfbaaSumL
import Derived.Test.YtpfjkappgdpfbaaSumQ
namespace Go.Proofs.Ytpfjkappgdpfbaa
open Go.RowKit
set_option maxRecDepth 100000
set_option maxHeartbeats 400000
theorem sumBytes_any (A : Option Addr) (cp : Nat) (l : List UInt8) (cut : Int) (w : World) (hcp : l.length ≤ cp) (hA : Bs w A l) :
    Calls Try.prog 5 #[.slice A l.length cp, .int .i64 cut] w fun e w' => e = .returned (.bool true) ∧ Below w.heap.size w w' := by
  by_cases h1 : 8000 < l.length
  · go_enter Try.func5, Try.ntmps5
    go_wp2_with (go_at_call 15; refine (known_any _).mono ?_; rintro e w1 ⟨rfl, hb1⟩)
    go_ret
    exact ⟨rfl, hb1⟩
  by_cases h2 : cut < 0
  · go_enter Try.func5, Try.ntmps5
    go_wp2_with (go_at_call 15; refine (known_any _).mono ?_; rintro e w1 ⟨rfl, hb1⟩)
    go_ret
    exact ⟨rfl, hb1⟩
  by_cases h3 : (l.length : Int) < cut
  · go_enter Try.func5, Try.ntmps5
    go_wp2_with (go_at_call 15; refine (known_any _).mono ?_; rintro e w1 ⟨rfl, hb1⟩)
    go_ret
    exact ⟨rfl, hb1⟩
  obtain ⟨k, rfl⟩ : ∃ k : Nat, cut = k := ⟨cut.toNat, by omega⟩
  have hk : k ≤ l.length := by omega
  have hl : l.length ≤ 140737488351232 := by omega
  go_enter Try.func5, Try.ntmps5
  go_wp2_with (first
    | (go_at_call 15; refine (known_any _).mono ?_; rintro e w1 ⟨rfl, hb1⟩)
    | (go_at_call 16; refine (crc_any A cp l _ hl (hA.below ‹_›)).mono ?_; rintro e w2 ⟨rfl, hb2⟩)
    | (go_at_call 17; refine (adler_any A cp l _ hl (Sl.below (hA.below hb1) hb2)).mono ?_; rintro e w3 ⟨rfl, rfl⟩))
  have hB : Bs w2 A l := Sl.below (hA.below hb1) hb2
  have hT : Bs w2 A (l.take k) := Bs.take hB k
  have hD : Bs w2 (cutA A cp k 1) (l.drop k) := Bs.cut hB k cp hcp
  have hlT : (l.take k).length = k := by simp [hk]
  have hlD : (l.drop k).length = l.length - k := by simp
  have hsl := slice_from22 A l.length cp k hk
  have e1 : crcMore (crcMore 0 (l.take k)) (l.drop k) = crcMore 0 l := by rw [crcMore_append, List.take_append_drop]
  have e2 : adlMore (adlMore 1 (l.take k)) (l.drop k) = adlMore 1 l := by rw [adlMore_append, List.take_append_drop]
  have E1 := Lib.hid e1; have E2 := Lib.hid e2; clear e1 e2
  have c1 := fun w' hb => quietS (W := w2) (w := w') hb (crcR_any A cp l _ hl (hB.below hb))
  have c2 := fun w' hb => quietS (W := w2) (w := w') hb (adlerR_any A cp l _ hl (hB.below hb))
  have c3 := fun w' hb => quietB (W := w2) (w := w') hb (crc_any A cp (l.take k) _ (by omega) (hT.below hb))
  have c4 := fun w' hb => quietB (W := w2) (w := w') hb (crcMore_any (crcMore 0 (l.take k)) (crcMore_lt _ _) (cutA A cp k 1) (cp - k) (l.drop k) _ (by omega) (hD.below hb))
  have c5 := fun w' hb => quietS (W := w2) (w := w') hb (adler_any A cp (l.take k) _ (by omega) (hT.below hb))
  have c6 := fun w' hb => quietS (W := w2) (w := w') hb (adlerMore_any (adlMore 1 (l.take k)) (adlMore_lt (by decide) _) (cutA A cp k 1) (cp - k) (l.drop k) _ (by omega) (hD.below hb))
  have c7 := fun w' hb => quietS (W := w2) (w := w') hb (adler_any (cutA A cp k 1) (cp - k) (l.drop k) _ (by omega) (hD.below hb))
  have c8 := fun w' hb => quietS (W := w2) (w := w') hb (join_any (adlMore 1 (l.take k)) (adlMore 1 (l.drop k)) (l.drop k).length (adlMore_lt (by decide) _) (adlMore_lt (by decide) _) (by omega) w')
  rw [crcMoreR_eq] at c1
  rw [hlT] at c3 c5
  rw [E1.out, hlD] at c4
  rw [E2.out, hlD] at c6
  rw [adl_join, List.take_append_drop, hlD] at c8
  rw [hlD] at c7
  clear hlT hlD
  refine wp_region_quietC (C := fun w' => Below w2.heap.size w2 w') (Below.refl _ _).drew (by kernel_rfl) (by kernel_rfl) ?_
  repeat (go_big_quiet_step ((intro hb; first | rfl | exact c1 _ hb | exact c2 _ hb | exact c3 _ hb | exact c4 _ hb | exact c5 _ hb | exact c6 _ hb)))
  refine wpQuiet_nil ?_
  intro w3 hb3
  go_wp2
  refine wp_region_quietC (C := fun w' => Below w2.heap.size w2 w') (hb3.drew) (by kernel_rfl) (by kernel_rfl) ?_
  have s1 : IntKind.i64.wrap ((l.length : Int) - (k : Int)) = ((l.length - k : Nat) : Int) := by rw [IntWalk.i64_in _ (by omega)]; omega
  repeat (go_big_quiet_step ((intro hb; first | rfl | exact c5 _ hb | exact c7 _ hb | exact c8 _ hb)))
  refine wpQuiet_nil ?_
  intro w4 hb4
  go_wp2
  go_ret
  exact ⟨rfl, hb1.trans ((hb2.mono hb1.size).trans (hb4.mono (Nat.le_trans hb1.size hb2.size)))⟩
end Go.Proofs.Ytpfjkappgdpfbaa
