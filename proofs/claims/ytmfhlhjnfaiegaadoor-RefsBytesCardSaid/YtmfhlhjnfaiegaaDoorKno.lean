/- known: the example answers true. No condition. -/
import Derived.Test.YtmfhlhjnfaiegaaDoorDec
namespace Go.Proofs.YtmfhlhjnfaiegaaDoor
open Go.RowKit
set_option maxRecDepth 100000
set_option maxHeartbeats 2000000
set_option linter.unusedVariables false
def kna : List UInt8 := [104, 101, 97, 100, 115, 47, 97]
def kid : List UInt8 := 1 :: List.replicate 19 0
def krow : List Rf := [(kna, kid)]
theorem k_set : setI [] kna kid = (krow, 0) := by decide +kernel
theorem k_right : rightB krow = true := by decide +kernel
theorem k_enc : encI krow = (saidB krow, 0) := by rw [encI, k_right, if_pos rfl]; rfl
theorem k_20 : Rf20 krow := fun r h => by
  obtain rfl := List.mem_singleton.1 h; rfl
theorem k_dec : decI (saidB krow) = (krow, 0) := dec_enc k_right k_20 (by decide)
theorem k_is : isN krow kna = true ∧ pkN krow kna = 0 := by decide +kernel
theorem k_del : delI krow kna = ([], 0) := by decide +kernel
theorem k_ris : RisR krow := List.pairwise_singleton _ _
theorem k_n1 : nameB [97, 47, 98, 46, 99] = true := by decide +kernel
theorem k_n2 : nameB [97, 47, 47, 98] = false := by decide +kernel
theorem k_len : (saidB krow).length ≤ 10000 := by
  have h1 : (textB krow).length = 49 := by decide +kernel
  have h2 : (sumB (textB krow)).length = 45 := by simp [sumB, hexs_len, sha1_len]
  unfold saidB
  rw [List.length_append]; omega
theorem k_find : (findI krow kna).length = 20 := by decide +kernel
theorem known_any (w : World) (hg : GOk w) : Calls Tryd.prog 5 #[] w fun e w' => e = .returned (.bool true) ∧ Below w.heap.size w w' := by
  have k1 : Calls Tryd.prog 15 #[.slice none 0 0, .string ⟨#[104, 101, 97, 100, 115, 47, 97]⟩, .agg #[.int .u8 1, .int .u8 0, .int .u8 0, .int .u8 0, .int .u8 0, .int .u8 0, .int .u8 0, .int .u8 0, .int .u8 0, .int .u8 0, .int .u8 0, .int .u8 0, .int .u8 0, .int .u8 0, .int .u8 0, .int .u8 0, .int .u8 0, .int .u8 0, .int .u8 0, .int .u8 0]] w (OutS (krow, 0) w) := by
    have := set_any [] (fun r h => by cases h) (by decide) List.Pairwise.nil kna kid (by decide) rfl (fun _ => rfl) none 0 w hg (Sl.nil _ _)
    rw [k_set] at this
    exact this
  have HG := Lib.hid hg
  clear hg
  go_enter Tryd.func5, Tryd.ntmps5
  go_wp2_with (first
    | (go_at_call 15; (with_reducible refine k1.mono ?_)
       rintro e w1 ⟨⟨A1, c1, rfl, _, hs1⟩, hb1⟩
       have g1 := HG.out.below hb1
       have k2 := enc_any krow k_20 (by decide) (fun r h => by obtain rfl := List.mem_singleton.1 h; decide) A1 c1 w1 g1 hs1
       rw [k_enc] at k2)
    | (go_at_call 7; (with_reducible refine k2.mono ?_)
       rintro e w2 ⟨⟨A2, c2, rfl, hs2⟩, hb2⟩
       have g2 := g1.below hb2
       have b2 := hb1.trans (hb2.mono hb1.size)
       have k3 := dec_any (saidB krow) k_len A2 c2 w2 g2 hs2
       rw [k_dec] at k3)
    | (go_at_call 10; (with_reducible refine k3.mono ?_)
       rintro e w3 ⟨⟨A3, c3, rfl, _, hs3⟩, hb3⟩
       have g3 := g2.below hb3
       have b3 := b2.trans (hb3.mono b2.size)
       have k4 : Calls Tryd.prog 16 #[.slice A3 krow.length c3, .string ⟨#[104, 101, 97, 100, 115, 47, 97]⟩] w3 fun e w' => e = .returned (.tuple #[idv (findI krow kna), .bool true]) ∧ Below w3.heap.size w3 w' := by
         have := look_any krow k_20 (by decide) k_ris kna A3 c3 w3 hs3
         rw [k_is.1] at this
         exact this
       have k5 : ∀ W, Below w3.heap.size w3 W → Calls Tryd.prog 17 #[.slice A3 krow.length c3, .string ⟨#[104, 101, 97, 100, 115, 47, 97]⟩] W (OutS ([], 0) W) := fun W h => by
         have := del_any krow k_20 (by decide) k_ris kna (by decide) (fun _ => by rw [k_is.2]; rfl) A3 c3 W (g3.below h) (hs3.below h)
         rw [k_del] at this
         exact this)
    | (go_at_call 16; (with_reducible refine k4.mono ?_)
       rintro e w4 ⟨rfl, hb4⟩
       have b4 := b3.trans (hb4.mono b3.size))
    | (refine wpList_store_row rfl 41 (.tmp 7) (.tmp 29) rfl w4.heap.size (bvs (findI krow kna)).toArray rfl rfl 41 _ (heap_alloc_new _ _) (info23 _ k_find) (by rw [show (bvs (findI krow kna)).toArray.size = 20 by simp [k_find]]; rfl) (one_bvs _) ?_)
    | (go_at_call 17
       have b35 := hb4.trans ((new_set w4 41 (bvs zs20).toArray (bvs (findI krow kna)).toArray).2.mono hb4.size)
       simp only [zlit]
       (with_reducible refine (k5 _ b35).mono ?_)
       rintro e w5 ⟨⟨A5, c5, rfl, _, hs5⟩, hb5⟩
       have b5 := (b3.trans (b35.mono b3.size)).trans (hb5.mono (b3.trans (b35.mono b3.size)).size)
       have n1 : Calls Tryd.prog 13 #[.string ⟨#[97, 47, 98, 46, 99]⟩] w5 fun e w' => e = .returned (.bool true) ∧ Below w5.heap.size w5 w' := by
         have := name_any (bstr [97, 47, 98, 46, 99]) (by decide) w5 (HG.out.below b5)
         rw [show (bstr [97, 47, 98, 46, 99]).data.toList = [97, 47, 98, 46, 99] from rfl, k_n1] at this
         exact this
       have n2 : ∀ W, Below w5.heap.size w5 W → Calls Tryd.prog 13 #[.string ⟨#[97, 47, 47, 98]⟩] W fun e w' => e = .returned (.bool false) ∧ Below W.heap.size W w' := fun W h => by
         have := name_any (bstr [97, 47, 47, 98]) (by decide) W ((HG.out.below b5).below h)
         rw [show (bstr [97, 47, 47, 98]).data.toList = [97, 47, 47, 98] from rfl, k_n2] at this
         exact this)
    | (go_at_call 13; (with_reducible refine n1.mono ?_); rintro e w6 ⟨rfl, hb6⟩)
    | (go_at_call 13; (with_reducible refine (n2 _ hb6).mono ?_); rintro e w7 ⟨rfl, hb7⟩))
  go_ret
  exact ⟨rfl, b5.trans ((hb6.trans (hb7.mono hb6.size)).mono b5.size)⟩
end Go.Proofs.YtmfhlhjnfaiegaaDoor
