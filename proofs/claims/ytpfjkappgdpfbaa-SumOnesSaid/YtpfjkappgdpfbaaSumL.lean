/- trovelaw4.known answers true. No condition. -/
import Derived.Test.YtpfjkappgdpfbaaSumW
import Derived.Deep.QuietTactic
import Derived.BigQuiet
import Derived.Lib.SlBytesConst
namespace Go.Proofs.Ytpfjkappgdpfbaa
open Go.RowKit
set_option maxRecDepth 100000
set_option maxHeartbeats 400000
def k9 : List UInt8 := [49, 50, 51, 52, 53, 54, 55, 56, 57]
theorem known_any (w : World) : Calls Try.prog 15 #[] w fun e w' => e = .returned (.bool true) ∧ Below w.heap.size w w' := by
  have kc := fun (w : World) (C : Array Value) (n c : Nat) => Lib.run_convert_bytes_const (P := Try.prog) w 22 5 C n c Try.underlying22 Try.underlying5
  go_enter Try.func15, Try.ntmps15
  go_wp2
  have hb0 := (Below.refl w.heap.size w).alloc (Nat.le_refl _) (.cells #[.int .u8 49, .int .u8 50, .int .u8 51, .int .u8 52, .int .u8 53, .int .u8 54, .int .u8 55, .int .u8 56, .int .u8 57] 5 (9, 10))
  have hA : Bs (w.alloc (.cells #[.int .u8 49, .int .u8 50, .int .u8 51, .int .u8 52, .int .u8 53, .int .u8 54, .int .u8 55, .int .u8 56, .int .u8 57] 5 (9, 10))) (some ⟨w.heap.size, 0, none⟩) k9 := by
    exact Sl.of_block (heap_alloc_new _ _) (fun j v hj => by simpa [bvs, bv, k9] using hj)
  obtain ⟨W, hW⟩ : ∃ W, W = w.alloc (.cells #[.int .u8 49, .int .u8 50, .int .u8 51, .int .u8 52, .int .u8 53, .int .u8 54, .int .u8 55, .int .u8 56, .int .u8 57] 5 (9, 10)) := ⟨_, rfl⟩
  have hs : w.heap.size < W.heap.size := by rw [hW]; simp
  rw [← hW] at hA hb0 ⊢
  have HA := hA
  clear hW kc
  refine wp_region_quietC (C := fun w' => Below W.heap.size W w') (Below.refl _ _).drew (by kernel_rfl) (by kernel_rfl) ?_
  have c1 : ((crcMore 0 k9 : Nat) : Int) = 3421780262 := by decide
  have c2 : ((adlMore 1 k9 : Nat) : Int) = 152961502 := by decide
  have c3 : ((crcMore 0 [] : Nat) : Int) = 0 := by decide
  have c4 : ((adlMore 1 [] : Nat) : Int) = 1 := by decide
  have c5 : crcMore (crcMore 0 (k9.take 4)) (k9.drop 4) = crcMore 0 k9 := by decide
  have hA4 := hA.take 4
  have hA5 : Bs W (some ⟨w.heap.size, 4, none⟩) (k9.drop 4) := Sl.drop hA 4
  have C5 := Lib.hid c5; clear c5
  repeat (go_big_quiet_step ((intro hb; first
    | rfl
    | exact quietB hb (crc_any (some ⟨w.heap.size, 0, none⟩) 9 k9 _ (by decide) (hA.below hb))
    | exact quietS hb (adler_any (some ⟨w.heap.size, 0, none⟩) 9 k9 _ (by decide) (hA.below hb))
    | exact quietB hb (crc_any none 0 [] _ (by decide) (Sl.nil _ _))
    | exact quietS hb (adler_any none 0 [] _ (by decide) (Sl.nil _ _))
    | exact quietB hb (crc_any (some ⟨w.heap.size, 0, none⟩) 9 (k9.take 4) _ (by decide) (Sl.below hA4 hb))
    | exact quietB hb (C5.out ▸ crcMore_any (crcMore 0 (k9.take 4)) (crcMore_lt _ _) (some ⟨w.heap.size, 4, none⟩) 5 (k9.drop 4) _ (by decide) (Sl.below hA5 hb)))))
  refine wpQuiet_nil ?_
  intro w' hw'
  go_wp2
  go_ret
  exact ⟨rfl, hb0.trans (hw'.mono hb0.size)⟩
end Go.Proofs.Ytpfjkappgdpfbaa
