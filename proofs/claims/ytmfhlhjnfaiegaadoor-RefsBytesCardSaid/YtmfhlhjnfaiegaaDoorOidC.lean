/- The reference's Hex tells a name's signs. No condition. -/
import Derived.Test.YtmfhlhjnfaiegaaDoorOidB
namespace Go.Proofs.YtmfhlhjnfaiegaaDoor
open Go.RowKit
set_option maxRecDepth 100000
set_option maxHeartbeats 4000000
set_option linter.unusedVariables false
theorem hexRef_any (id : List UInt8) (w : World) (hl : id.length = 20) : Calls Tryd.prog 38 #[idv id] w fun e w' => e = .returned (.string (bstr (hexs id))) ∧ Below w.heap.size w w' := by
  have hcl : Sl (w.alloc (.cells (bvs id).toArray 40)) (some ⟨w.heap.size, 0, none⟩) (bvs id) := Sl.of_block (heap_alloc_new _ _) (fun j v hj => by simpa using hj)
  have hb1 : Below w.heap.size w (w.alloc (.cells (bvs id).toArray 40)) := (Below.refl w.heap.size w).alloc (Nat.le_refl _) _
  have HCL := Lib.hid hcl
  clear hcl
  go_enter Tryd.func38, Tryd.ntmps38
  go_wp2
  go_loopw [4, 5] (fun t3 t8 wr => ∃ k : Nat, t8 = .int .i64 k ∧ k ≤ 20 ∧ WinB wr (w.alloc (.cells (bvs id).toArray 40)).heap.size 5 t3 (hexs (id.take k)) ∧ Below (w.alloc (.cells (bvs id).toArray 40)).heap.size (w.alloc (.cells (bvs id).toArray 40)) wr) (fun _ t8 _ => 20 - (intOf t8).toNat)
  case atStart => exact ⟨0, rfl, by omega, (show WinB _ _ 5 (.slice none 0 0) [] from Win.nil _ _ _ _), Below.refl _ _⟩
  case round =>
    obtain ⟨k, rfl, hk, hwv, hb0⟩ := hrel
    have hcr := Lib.hid (Sl.below HCL.out hb0)
    have hb : Below w.heap.size w wr := hb1.trans (hb0.mono (by simp))
    have hhl := hexs_len (id.take k)
    have htl : (id.take k).length = k := by simp; omega
    rw [htl] at hhl
    obtain ⟨A3, c3, rfl, hc3, _, hr3⟩ := WinB.readsN (n := 2 * k) hwv hhl
    have HR3 := Lib.hid hr3
    have HWV := Lib.hid hwv
    clear hwv htl hr3
    by_cases hlt : k < 20
    · have hh := hexs_snoc id k (by omega)
      obtain ⟨ad, e, hai⟩ := Bs.at hcr.out (j := k) (by omega)
      injection e with e
      subst e
      obtain ⟨x, hx⟩ : ∃ x, x = id[k]'(by omega) := ⟨_, rfl⟩
      rw [← hx] at hh hai
      rw [add_plain] at hai
      simp only [Nat.zero_add] at hai
      have hxl := x.toNat_lt
      obtain ⟨p1, hp1⟩ : ∃ p1, p1 = hexd (x.toNat / 16) := ⟨_, rfl⟩
      obtain ⟨p2, hp2⟩ : ∃ p2, p2 = hexd (x.toNat % 16) := ⟨_, rfl⟩
      have d1 : ∀ W, (Instr.index 9 (.string ⟨#[48, 49, 50, 51, 52, 53, 54, 55, 56, 57, 97, 98, 99, 100, 101, 102]⟩) (.int .u8 ((x.toNat : Int) / 16))).run Tryd.prog W = .ok (.int .u8 (p1.toNat : Int)) W := fun W => by
        rw [hp1]; exact dig_at (x.toNat / 16) (by omega) W
      have d2 : ∀ W, (Instr.index 9 (.string ⟨#[48, 49, 50, 51, 52, 53, 54, 55, 56, 57, 97, 98, 99, 100, 101, 102]⟩) (.int .u8 ((x.toNat : Int) % 16))).run Tryd.prog W = .ok (.int .u8 (p2.toNat : Int)) W := fun W => by
        rw [hp2]; exact dig_at (x.toNat % 16) (by omega) W
      have e2 : bits .and .u8 (x.toNat : Int) 15 = (x.toNat : Int) % 16 := nib_lo x
      rw [← hp1, ← hp2] at hh
      have HH := Lib.hid hh; have HHL := Lib.hid hhl
      clear hh hx hhl hp1 hp2
      have had : wr.drew.cell? ⟨w.heap.size, k, none⟩ = some (.int .u8 (x.toNat : Int)) := hai
      have hbA : Below wr.heap.size wr ((wr.alloc (.cells #[.int .u8 (p1.toNat : Int), .int .u8 (p2.toNat : Int)] 5)).drew) := ((Below.refl _ _).alloc (Nat.le_refl _) _).drew
      have hwa := Lib.hid (Win.below HWV.out hbA)
      have hal := Lib.hid (heap_alloc_new wr.drew (.cells #[.int .u8 (p1.toNat : Int), .int .u8 (p2.toNat : Int)] 5))
      have hsz := hb0.size
      have hBa := Nat.le_trans hsz hbA.size
      go_wp2
      go_region_law (first
        | (refine step_appW34 rfl (.tmp 10) (.tmp 23) rfl (w.alloc (.cells (bvs id).toArray 40)).heap.size _ (hexs (id.take k)) rfl hwa.out (some ⟨wr.heap.size, 0, none⟩) 2 [p1, p2] rfl (Sl.of_block hal.out (two_bytes rfl rfl)) (by have := HHL.out; simp; omega) hBa ?_
           intro v6 w6 hw6 hk6 _))
      all_goals (
        go_wp2
        go_roundw
        case rel => exact ⟨k + 1, by go_num, by omega, by rw [HH.out]; exact hw6, (hb0.trans (hbA.mono hsz)).trans (hk6.toBelow hBa (fun g hg e => absurd (Win.block HWV.out g e).1 (by omega)))⟩
        case measure => simp [intOf]; omega)
    · obtain rfl : k = 20 := by omega
      have hfin := HR3.out
      rw [List.take_of_length_le (by omega)] at hfin
      have hcv : (convert 23 9 (.slice A3 (2 * 20) c3)).run Tryd.prog wr = .ok (.string (bstr (hexs id))) wr := conv34 hfin (by rw [hexs_len, hl])
      clear hfin hhl
      go_wp2
      go_ret
      exact ⟨rfl, hb⟩
end Go.Proofs.YtmfhlhjnfaiegaaDoor
