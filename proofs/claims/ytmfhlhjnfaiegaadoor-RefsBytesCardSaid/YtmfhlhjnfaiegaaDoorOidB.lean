/- Hex and the reference's Hex tell a name's signs. No condition. -/
import Derived.Test.YtmfhlhjnfaiegaaDoorOidA
import Derived.ChangeKeysEq
namespace Go.Proofs.YtmfhlhjnfaiegaaDoor
open Go.RowKit
set_option maxRecDepth 100000
set_option maxHeartbeats 4000000
set_option linter.unusedVariables false
abbrev idv (l : List UInt8) : Value := .agg (bvs l).toArray
theorem grown_below {w w' : World} (h : w.grownBy w' none) : Below w.heap.size w w' := ⟨h.os, h.tape, h.output, h.size, fun i hi => h.block i hi (by simp)⟩
theorem dig_at (x : Nat) (hx : x < 16) (w : World) : (Instr.index 9 (.string ⟨#[48, 49, 50, 51, 52, 53, 54, 55, 56, 57, 97, 98, 99, 100, 101, 102]⟩) (.int .u8 (x : Int))).run Tryd.prog w = .ok (.int .u8 ((hexd x).toNat : Int)) w := by
  have e : (⟨#[48, 49, 50, 51, 52, 53, 54, 55, 56, 57, 97, 98, 99, 100, 101, 102]⟩ : ByteArray)[x]? = some (hexd x) := by
    have : ∀ n < 16, (⟨#[48, 49, 50, 51, 52, 53, 54, 55, 56, 57, 97, 98, 99, 100, 101, 102]⟩ : ByteArray)[n]? = some (hexd n) := by decide +kernel
    exact this x hx
  simp [Instr.index, asIntOf, run_underlying Tryd.underlying9, e]
theorem nib_lo (c : UInt8) : bits .and .u8 (c.toNat : Int) 15 = ((c.toNat % 16 : Nat) : Int) := by
  have hl := c.toNat_lt
  have := (bits_nat .u8 8 (by decide) (fun n h0 h1 => IntWalk.u8_in n (by omega)) c.toNat (2 ^ 4 - 1) (by omega) (by decide)).1
  rw [Nat.and_two_pow_sub_one_eq_mod] at this
  exact this
theorem hexs_snoc (id : List UInt8) (k : Nat) (h : k < id.length) : hexs (id.take (k + 1)) = hexs (id.take k) ++ [hexd (id[k].toNat / 16), hexd (id[k].toNat % 16)] := by
  rw [List.take_succ_eq_append_getElem h]
  unfold hexs
  rw [List.flatMap_append]
  simp
theorem two_bytes {x y : Int} {a b : UInt8} (h : x = (a.toNat : Int)) (h2 : y = (b.toNat : Int)) : ∀ j v, (bvs [a, b])[j]? = some v → #[Value.int .u8 x, Value.int .u8 y][0 + j]? = some v := by
  subst h h2; intro j v hj
  simpa [bvs, bv] using hj
theorem arr_at (T : Nat) (hT : Tryd.prog.underlying T = some (.array 20 5)) (l : List UInt8) (hl : l.length = 20) (k : Nat) (hk : k < l.length) (w : World) : (Instr.index T (idv l) (.int .i64 (k : Int))).run Tryd.prog w = .ok (.int .u8 (l[k].toNat : Int)) w := by
  have hs : (sizeOf 5).run Tryd.prog w = .ok 1 w := by kernel_rfl
  have hp : (part 5 (bvs l).toArray k).run Tryd.prog w = .ok (.int .u8 (l[k].toNat : Int)) w := run_part_plain w (by kernel_rfl) (by simp [bvs, bv, hk])
  have h2 : (k : Int) < 20 := by omega
  have h3 : k < 20 := by omega
  simp [Instr.index, asIntOf, run_underlying hT, hs, hp, h2, h3, Result.andThen]
theorem hex_any (id : List UInt8) (w : World) (hl : id.length = 20) : Calls Tryd.prog 35 #[idv id] w fun e w' => e = .returned (.string (bstr (hexs id))) ∧ Below w.heap.size w w' := by
  obtain ⟨i5, hi, hz0, hz1, hz2⟩ := info_parts Tryd.info5
  have ha := fun k hk => arr_at 41 Tryd.underlying41 id hl k hk
  have h23 : (Tryd.prog.info? 41).map (·.size) = some (bvs id).length := by rw [bvs_length, hl]; kernel_rfl
  have H23 := Lib.hid h23
  clear h23
  go_enter Tryd.func35, Tryd.ntmps35
  go_wp2_with (first
    | (at_make
       refine wpList_make_own _ rfl _ _ 23 rfl w.heap.size 5 i5 (.int .u8 0) 1 Tryd.underlying23 hi hz0 hz1 .i64 .i64 40 40 rfl rfl rfl (by rw [hz2]; decide) (by decide) (by simp) ?_
       intro w1 hown1 hgr1
       have hcl : Sl w1 (some ⟨w.heap.size, 0, none⟩) (bvs id) := Sl.below (Sl.of_block (heap_alloc_new _ _) (fun j v hj => by simpa using hj)) (grown_below hgr1))
    | (refine wpList_load_agg rfl 41 (.tmp 1) rfl ⟨w.heap.size, 0, none⟩ rfl (bvs id) _ hcl Tryd.underlying41 rfl H23.out ?_))
  have hb1 : Below w.heap.size w w1 := ((Below.refl w.heap.size w).alloc (Nat.le_refl _) _).trans ((grown_below hgr1).mono (by simp))
  have hw1 : WinB w1 w.heap.size 5 (.slice (some ⟨w.heap.size + 1, 0, none⟩) 0 40) [] := by
    have := Win.ofOwns hown1
    rw [show (w.alloc (.cells (bvs id).toArray 41)).heap.size = w.heap.size + 1 by simp] at this
    exact this
  clear hown1 hgr1 hcl
  go_loopw [3, 8] (fun t3 t8 wr => ∃ k : Nat, t8 = .int .i64 k ∧ k ≤ 20 ∧ WinB wr w.heap.size 5 t3 (hexs (id.take k)) ∧ Below w.heap.size w wr) (fun _ t8 _ => 20 - (intOf t8).toNat)
  case atStart => exact ⟨0, rfl, by omega, by simpa [hexs] using hw1, hb1⟩
  case round =>
    clear hw1 hb1
    obtain ⟨k, rfl, hk, hwv, hb⟩ := hrel
    have hhl := hexs_len (id.take k)
    have htl : (id.take k).length = k := by simp; omega
    rw [htl] at hhl
    obtain ⟨A3, c3, rfl, hc3, _, hr3⟩ := WinB.readsN (n := 2 * k) hwv hhl
    have HR3 := Lib.hid hr3
    have HWV := Lib.hid hwv
    clear hwv htl hr3
    by_cases hlt : k < 20
    · have hh := hexs_snoc id k (by omega)
      have hai := ha k (by omega)
      obtain ⟨x, hx⟩ : ∃ x, x = id[k]'(by omega) := ⟨_, rfl⟩
      rw [← hx] at hh hai
      have hxl := x.toNat_lt
      obtain ⟨p1, hp1⟩ : ∃ p1, p1 = hexd (x.toNat / 16) := ⟨_, rfl⟩
      obtain ⟨p2, hp2⟩ : ∃ p2, p2 = hexd (x.toNat % 16) := ⟨_, rfl⟩
      have d1 : ∀ W, (Instr.index 9 (.string ⟨#[48, 49, 50, 51, 52, 53, 54, 55, 56, 57, 97, 98, 99, 100, 101, 102]⟩) (.int .u8 ((x.toNat : Int) / 16))).run Tryd.prog W = .ok (.int .u8 (p1.toNat : Int)) W := fun W => by
        rw [hp1]; exact dig_at (x.toNat / 16) (by omega) W
      have d2 : ∀ W, (Instr.index 9 (.string ⟨#[48, 49, 50, 51, 52, 53, 54, 55, 56, 57, 97, 98, 99, 100, 101, 102]⟩) (.int .u8 ((x.toNat : Int) % 16))).run Tryd.prog W = .ok (.int .u8 (p2.toNat : Int)) W := fun W => by
        rw [hp2]; exact dig_at (x.toNat % 16) (by omega) W
      have e2 : bits .and .u8 (x.toNat : Int) 15 = (x.toNat : Int) % 16 := nib_lo x
      rw [← hp1, ← hp2] at hh
      have HH := Lib.hid hh; have HHL := Lib.hid hhl
      clear hh hx hhl ha hp1 hp2
      have hbA : Below wr.heap.size wr ((wr.alloc (.cells #[.int .u8 (p1.toNat : Int), .int .u8 (p2.toNat : Int)] 5)).drew) := ((Below.refl _ _).alloc (Nat.le_refl _) _).drew
      have hwa := Lib.hid (Win.below HWV.out hbA)
      have hal := Lib.hid (heap_alloc_new wr.drew (.cells #[.int .u8 (p1.toNat : Int), .int .u8 (p2.toNat : Int)] 5))
      have hsz := hb.size
      have hBa := Nat.le_trans hsz hbA.size
      go_wp2
      go_region_law (first
        | (refine step_appW34 rfl (.tmp 11) (.tmp 18) rfl w.heap.size _ (hexs (id.take k)) rfl hwa.out (some ⟨wr.heap.size, 0, none⟩) 2 [p1, p2] rfl (Sl.of_block hal.out (two_bytes rfl rfl)) (by have := HHL.out; simp; omega) hBa ?_
           intro v6 w6 hw6 hk6 _))
      all_goals (
        go_wp2
        go_roundw
        case rel => exact ⟨k + 1, by go_num, by omega, by rw [HH.out]; exact hw6, (hb.trans (hbA.mono hsz)).trans (hk6.toBelow hBa (fun g hg e => absurd (Win.block HWV.out g e).1 (by omega)))⟩
        case measure => simp [intOf]; omega)
    · obtain rfl : k = 20 := by omega
      have hfin := HR3.out
      rw [List.take_of_length_le (by omega)] at hfin
      have hcv : (convert 23 9 (.slice A3 (2 * 20) c3)).run Tryd.prog wr = .ok (.string (bstr (hexs id))) wr := conv34 hfin (by rw [hexs_len, hl])
      clear hfin hhl
      go_wp2
      go_ret
      exact ⟨rfl, hb⟩
end Go.Proofs.YtmfhlhjnfaiegaaDoor
