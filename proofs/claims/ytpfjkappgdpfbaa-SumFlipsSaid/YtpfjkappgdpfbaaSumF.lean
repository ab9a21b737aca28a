/- trovelaw4.SumFlips answers true at any bytes, any place and any pattern. No condition. -/
import Derived.Test.YtpfjkappgdpfbaaSumL
import Derived.Test.YtpfjkappgdpfbaaSumQ
import Derived.StillTailTactics
import Derived.Deep.AppendLies
namespace Go.Proofs.Ytpfjkappgdpfbaa
open Go.RowKit
set_option maxRecDepth 100000
set_option maxHeartbeats 400000
theorem xor_u8 (a b : UInt8) : bits .xor .u8 (a.toNat : Int) (b.toNat : Int) = ((a ^^^ b).toNat : Int) := by
  have ha := a.toNat_lt
  have hb := b.toNat_lt
  have h := Nat.xor_lt_two_pow (n := 8) ha hb
  have e : (BitVec.ofInt 8 (a.toNat : Int) ^^^ BitVec.ofInt 8 (b.toNat : Int)).toNat = a.toNat ^^^ b.toNat := by
    rw [BitVec.ofInt_natCast, BitVec.ofInt_natCast, BitVec.toNat_xor, BitVec.toNat_ofNat, BitVec.toNat_ofNat, Nat.mod_eq_of_lt ha, Nat.mod_eq_of_lt hb]
  show IntKind.u8.wrap ((BitVec.ofInt 8 (a.toNat : Int) ^^^ BitVec.ofInt 8 (b.toNat : Int)).toNat : Int) = _
  rw [e, IntKind.wrap_u8, UInt8.toNat_xor]; omega
/-- the list with its first k bytes put to the other's -/
def zipTo (l m : List UInt8) (k : Nat) : List UInt8 := (List.zipWith (· ^^^ ·) l m).take k ++ l.drop k
theorem zipTo_len (l m : List UInt8) (k : Nat) (h : l.length ≤ m.length) (hk : k ≤ l.length) : (zipTo l m k).length = l.length := by
  simp [zipTo]; omega
theorem zipTo_pre (l m : List UInt8) (k : Nat) (h : l.length ≤ m.length) (hk : k ≤ l.length) : ((List.zipWith (· ^^^ ·) l m).take k).length = k := by
  simp; omega
theorem zipTo_at (l m : List UInt8) (k : Nat) (h : l.length ≤ m.length) (hk : k < l.length) : (zipTo l m k)[k]? = some l[k] := by
  have e := zipTo_pre l m k h (by omega)
  rw [zipTo, List.getElem?_append_right (by omega), e, Nat.sub_self, List.getElem?_drop, Nat.add_zero, List.getElem?_eq_getElem hk]
theorem zipTo_set (l m : List UInt8) (k : Nat) (h : l.length ≤ m.length) (hk : k < l.length) : (zipTo l m k).set k (l[k] ^^^ m[k]) = zipTo l m (k + 1) := by
  have e := zipTo_pre l m k h (by omega)
  have e1 : l.drop k = l[k] :: l.drop (k + 1) := List.drop_eq_getElem_cons hk
  have e2 : (List.zipWith (· ^^^ ·) l m).take (k + 1) = (List.zipWith (· ^^^ ·) l m).take k ++ [l[k] ^^^ m[k]] := by
    rw [List.take_succ_eq_append_getElem (by simp; omega)]; simp
  rw [zipTo, zipTo, e2, List.set_append_right _ _ (by omega), e, Nat.sub_self, e1, List.set_cons_zero, List.append_assoc]; rfl
theorem zipTo_end (l m : List UInt8) : zipTo l m l.length = List.zipWith (· ^^^ ·) l (m.take l.length) := by
  rw [zipTo, List.drop_length, List.append_nil, List.take_of_length_le (by rw [List.length_zipWith]; exact Nat.min_le_left _ _)]
  apply List.ext_getElem
  · simp
  · intro i h1 h2; simp
theorem bvs_set (l : List UInt8) (k : Nat) (c : UInt8) : (bvs l).set k (.int .u8 c.toNat) = bvs (l.set k c) := by
  rw [bvs, bvs, List.map_set]; rfl
theorem bvs_at (l : List UInt8) (k : Nat) (c : UInt8) (h : l[k]? = some c) : (bvs l)[k]? = some (.int .u8 c.toNat) := by
  rw [bvs, List.getElem?_map, h]; rfl
theorem tst_bit {pat k : Nat} (hp : pat < 4294967296) : bits .and .u32 ((pat : Int) / 2 ^ k) 1 = ((pat / 2 ^ k % 2 : Nat) : Int) := by
  have e : (pat : Int) / 2 ^ k = ((pat / 2 ^ k : Nat) : Int) := by rw [Int.natCast_ediv, Int.natCast_pow]; rfl
  rw [e, u32_and1 (Nat.lt_of_le_of_lt (Nat.div_le_self _ _) hp)]
theorem xor_mul (a b i : Nat) : (a ^^^ b) * 2 ^ i = a * 2 ^ i ^^^ b * 2 ^ i := by
  rw [← Nat.shiftLeft_eq, ← Nat.shiftLeft_eq, ← Nat.shiftLeft_eq, Nat.shiftLeft_xor_distrib]
def bitB (r : Nat) : UInt8 := UInt8.ofNat (2 ^ r)
theorem bitB_nat {r : Nat} (h : r < 8) : (bitB r).toNat = 2 ^ r := by
  have : 2 ^ r < 2 ^ 8 := Nat.pow_lt_pow_right (by decide) h
  simp [bitB]; omega
theorem bitB_walk {r : Nat} (h : r < 8) : (2 : Int) ^ r % 256 = ((bitB r).toNat : Int) := by
  have : 2 ^ r < 2 ^ 8 := Nat.pow_lt_pow_right (by decide) h
  have e : (2 : Int) ^ r = ((2 ^ r : Nat) : Int) := by rw [Int.natCast_pow]; rfl
  obtain ⟨q, hq⟩ : ∃ q, q = 2 ^ r := ⟨_, rfl⟩
  rw [bitB_nat h, e, ← hq]
  rw [← hq] at this
  omega
theorem pat_none {pat k : Nat} (h : pat / 2 ^ k % 2 = 0) : pat % 2 ^ (k + 1) = pat % 2 ^ k := by
  rw [Nat.mod_pow_succ, h]; simp
theorem pat_some {pat k : Nat} (h : pat / 2 ^ k % 2 = 1) : pat % 2 ^ (k + 1) = 2 ^ k + pat % 2 ^ k := by
  rw [Nat.mod_pow_succ, h]; omega
theorem pat_xor {pat k : Nat} (h : pat / 2 ^ k % 2 = 1) : pat % 2 ^ (k + 1) = pat % 2 ^ k ^^^ 2 ^ k := by
  have := xor_join (a := 1) (b := pat % 2 ^ k) k (Nat.mod_lt _ (Nat.two_pow_pos k))
  rw [Nat.one_mul] at this
  rw [pat_some h, this, Nat.xor_comm]
theorem flip_num {pat k bit : Nat} {xs l : List UInt8} (h : pat / 2 ^ k % 2 = 1) (hx : (bit + k) / 8 < xs.length) (hn : num xs = num l ^^^ pat % 2 ^ k * 2 ^ bit) :
    num (xs.set ((bit + k) / 8) (xs[(bit + k) / 8] ^^^ bitB ((bit + k) % 8))) = num l ^^^ pat % 2 ^ (k + 1) * 2 ^ bit := by
  rw [num_set xs _ hx, bitB_nat (Nat.mod_lt _ (by decide)), hn, pat_xor h, xor_mul, ← Nat.xor_assoc]
  congr 1
  rw [← Nat.pow_add, ← Nat.pow_add]
  congr 1; omega
set_option maxHeartbeats 4000000 in
theorem sumFlips_any (A : Option Addr) (cp : Nat) (l : List UInt8) (bit : Int) (pat : Nat) (hpat : pat < 4294967296) (A2 : Option Addr) (cp2 : Nat) (m : List UInt8) (hcp2 : m.length ≤ cp2) (hm2 : cp2 ≤ 9223372036854775807) (w : World) (hA : Bs w A l) (hA2 : Bs w A2 m) :
    Calls Try.prog 3 #[.slice A l.length cp, .int .i64 bit, .int .u32 pat, .slice A2 m.length cp2] w fun e w' => e = .returned (.bool true) ∧ Below w.heap.size w w' := by
  by_cases h1 : 8000 < l.length
  · go_enter Try.func3, Try.ntmps3
    go_wp2_with (go_at_call 15; refine (known_any _).mono ?_; rintro e w1 ⟨rfl, hb1⟩)
    go_ret
    exact ⟨rfl, hb1⟩
  by_cases h2 : bit < 0
  · go_enter Try.func3, Try.ntmps3
    go_wp2_with (go_at_call 15; refine (known_any _).mono ?_; rintro e w1 ⟨rfl, hb1⟩)
    go_ret
    exact ⟨rfl, hb1⟩
  obtain ⟨bit, rfl⟩ : ∃ k : Nat, bit = k := ⟨bit.toNat, by omega⟩
  by_cases h3 : 8 * l.length ≤ bit
  · go_enter Try.func3, Try.ntmps3
    go_wp2_with (go_at_call 15; refine (known_any _).mono ?_; rintro e w1 ⟨rfl, hb1⟩)
    go_ret
    exact ⟨rfl, hb1⟩
  by_cases h4 : m.length < l.length
  · go_enter Try.func3, Try.ntmps3
    go_wp2_with (go_at_call 15; refine (known_any _).mono ?_; rintro e w1 ⟨rfl, hb1⟩)
    go_ret
    exact ⟨rfl, hb1⟩
  have hl : l.length ≤ 8000 := by omega
  have hbit : bit < 8 * l.length := by omega
  have hml : l.length ≤ m.length := by omega
  clear h1 h2 h3
  go_enter Try.func3, Try.ntmps3
  go_wp2_with (first
    | (go_at_call 15; refine (known_any _).mono ?_; rintro e w1 ⟨rfl, hb1⟩)
    | (at_builtin; refine app22 rfl (.tmp 38) (.tmp 39) rfl w.heap.size _ [] rfl (Own.empty hb1.size) A cp l rfl ((hA.below hb1).below ((Below.refl _ _).alloc (Nat.le_refl _) _)) (by simp; omega) (by simp; exact Nat.le_succ_of_le hb1.size) ?_; intro v2 w2 hown2 hg2
       have hb2 := Below.app (hb1.alloc hb1.size _) (Own.empty (e := 5) hb1.size) hg2 (Nat.le_trans hb1.size (by simp)))
    | (at_builtin; have tok := hown2; refine app22 rfl (.tmp 41) (.tmp 42) rfl w2.heap.size _ [] rfl (Own.empty (Nat.le_refl _)) A cp l rfl (hA.below (hb2.alloc hb2.size _)) (by simp; omega) (by simp) ?_; intro v3 w3 hown3 hg3))
  have hb3 := Below.app ((Below.refl w2.heap.size w2).alloc (Nat.le_refl _) _) (Own.empty (e := 5) (Nat.le_refl _)) hg3 (by simp)
  have hown2' := ownsRow_below (w := w2) (w' := w3) hown2 hb3
  rw [List.nil_append] at hown2' hown3
  obtain ⟨gx, cx, rfl, hgx, hlx⟩ := World.ownsRow.form hown2' (by omega)
  obtain ⟨gy, cy, rfl, hgy, hly⟩ := World.ownsRow.form hown3 (by omega)
  have hgxlt : gx < w2.heap.size := (hown2.lt gx rfl).2
  have hB3 := hb2.trans (hb3.mono hb2.size)
  have HX := Lib.hid hown2'
  have hgw : w.heap.size ≤ w2.heap.size := hb2.size
  clear hown2' hown2 hg2 hg3 hb2 hb1 tok
  go_loopw [12] (fun i wr => ∃ k : Nat, k ≤ l.length ∧ i = .int .i64 k ∧ wr.ownsRow w2.heap.size 5 1 (.slice (some ⟨gy, 0, none⟩) l.length cy) l.length (bvs (zipTo l m k)) ∧ Below w2.heap.size w3 wr ∧ Below w.heap.size w wr) (fun i _ => l.length - (intOf i).toNat)
  case atStart => exact ⟨0, by omega, rfl, by simpa [zipTo] using hown3, Below.refl _ _, hB3⟩
  case round =>
    obtain ⟨k, hk, rfl, hown, hbx, hb⟩ := hrel
    by_cases hlt : k < l.length
    · have hkm : k < m.length := by omega
      obtain ⟨a1, rfl, h1⟩ := Bs.at (hA.below hb) hlt
      obtain ⟨a2, rfl, h2⟩ := Bs.at (hA2.below hb) (show k < m.length by omega)
      have hc : wr.cell? ⟨gy, k, none⟩ = some (.int .u8 l[k].toNat) := by
        rw [hown.cellAt k (by omega)]; exact bvs_at _ _ _ (zipTo_at l m k hml hlt)
      have hf := hown.frozenAt k
      have hst := (hown.stored k (.int .u8 (l[k] ^^^ m[k]).toNat)).1
      have hx := xor_u8 l[k] m[k]
      have HS := Lib.hid hst
      have hbx' := Lib.hid hbx
      have hb' := Lib.hid hb
      clear hst hown hbx hb
      go_wp2
      go_still_tail 12, (by kernel_rfl)
      change wpList _ _ _ _ _ wr.drew
      have hf' : wr.drew.frozen? ⟨gy, k, none⟩ = false := hf
      have hc' : wr.drew.cell? ⟨gy, k, none⟩ = some (.int .u8 l[k].toNat) := hc
      go_wp2
      go_roundw
      case rel =>
        refine ⟨k + 1, by omega, by go_num, ?_, Below.drew (Below.setCell hbx'.out (by exact hgy) _), Below.drew (Below.setCell hb'.out (by exact Nat.le_trans hgw hgy) _)⟩
        have := HS.out
        rw [bvs_set, zipTo_set l m k hml hlt, UInt8.toNat_xor] at this
        exact this
      case measure => simp [intOf]; omega
    · obtain rfl : k = l.length := by omega
      rw [zipTo_end] at hown
      have hxo := ownsRow_keep HX.out hbx (fun g hg => by injection hg with hg; subst hg; exact hgxlt)
      have HY := Lib.hid hown
      have HX' := Lib.hid hxo
      have hbr := Lib.hid hb
      clear hown hxo hbx hb HX hB3 hb3 hown3
      go_wp2
      go_loopw [11, 13] (fun t i wr => ∃ (k : Nat) (xs : List UInt8), k ≤ 32 ∧ i = .int .i64 k ∧ bit + k ≤ 8 * l.length ∧ xs.length = l.length ∧ num xs = num l ^^^ (pat % 2 ^ k) * 2 ^ bit ∧ t = .bool (decide (pat % 2 ^ k ≠ 0)) ∧
        wr.ownsRow w.heap.size 5 1 (.slice (some ⟨gx, 0, none⟩) l.length cx) l.length (bvs xs) ∧
        wr.ownsRow w2.heap.size 5 1 (.slice (some ⟨gy, 0, none⟩) l.length cy) l.length (bvs (List.zipWith (· ^^^ ·) l (m.take l.length))) ∧ Below w.heap.size w wr) (fun _ i _ => 32 - (intOf i).toNat)
      case atStart => exact ⟨0, l, by omega, rfl, by omega, rfl, by simp [Nat.mod_one], by simp [Nat.mod_one], HX'.out, HY.out, hbr.out⟩
      case round =>
        obtain ⟨k, xs, hk, rfl, hbk, hxl, hnum, rfl, hxo, hyo, hb⟩ := hrel
        have HN := Lib.hid hnum; have HXO := Lib.hid hxo; have HYO := Lib.hid hyo; have HB := Lib.hid hb; have HXL := Lib.hid hxl
        clear hnum hxo hyo hb hxl
        by_cases h56 : k < 32 ∧ bit + k < 8 * l.length
        · obtain ⟨h5, h6⟩ := h56
          · have ht := tst_bit (k := k) hpat
            by_cases h7 : pat / 2 ^ k % 2 = 1
            · rw [h7] at ht
              have hj : (bit + k) / 8 < l.length := by omega
              have hjx : (bit + k) / 8 < xs.length := by rw [HXL.out]; exact hj
              have hc : wr.cell? ⟨gx, (bit + k) / 8, none⟩ = some (.int .u8 xs[(bit + k) / 8].toNat) := by
                rw [HXO.out.cellAt _ (by omega)]; exact bvs_at _ _ _ (List.getElem?_eq_getElem hjx)
              have hf := HXO.out.frozenAt ((bit + k) / 8)
              have H7 := Lib.hid h7; clear h7
              go_wp2
              go_roundw
              case rel =>
                have hst := HXO.out.stored ((bit + k) / 8) (.int .u8 (xs[(bit + k) / 8] ^^^ bitB ((bit + k) % 8)).toNat)
                rw [bitB_walk (Nat.mod_lt _ (by decide)), xor_u8]
                refine ⟨k + 1, xs.set ((bit + k) / 8) (xs[(bit + k) / 8] ^^^ bitB ((bit + k) % 8)), by omega, by go_num, by omega, by rw [List.length_set]; exact HXL.out, flip_num H7.out hjx HN.out, ?_, ?_, ?_, ?_⟩
                · have := Nat.two_pow_pos k
                  rw [pat_some H7.out]; simp
                · have := hst.1
                  rwa [bvs_set] at this
                · exact World.ownsRow.kept HYO.out hst.2 (.inr (fun e => absurd (show gy = gx by simpa [Value.ownBlock] using e) (by omega)))
                · exact Below.setCell HB.out hgx _
              case measure => simp [intOf]; omega
            · have h7' : pat / 2 ^ k % 2 = 0 := by omega
              rw [h7'] at ht
              have H7 := Lib.hid h7'; clear h7 h7'
              go_wp2
              go_roundw
              case rel =>
                refine ⟨k + 1, xs, by omega, by go_num, by omega, HXL.out, ?_, ?_, HXO.out, HYO.out, HB.out⟩
                · rw [pat_none H7.out]; exact HN.out
                · rw [pat_none H7.out]
                  simp
              case measure => simp [intOf]; omega
        · have hP : pat % 2 ^ k < 4294967296 := Nat.lt_of_le_of_lt (Nat.mod_le _ _) hpat
          have hfl := crc_flip xs l HXL.out (pat % 2 ^ k) bit hP (by omega) HN.out
          have h3c := crc_three l (m.take l.length) (by simp; omega)
          obtain ⟨P, hPe⟩ : ∃ P, P = pat % 2 ^ k := ⟨_, rfl⟩
          rw [← hPe] at hfl ⊢
          obtain ⟨i0, hi, hz0, hz1, hz2⟩ := info_parts Try.info5
          have hmb : i0.bytes * l.length ≤ 281474976710656 := by rw [hz2]; omega
          have hbs : w.heap.size ≤ wr.heap.size := HB.out.size
          have HFL := Lib.hid hfl; have H3C := Lib.hid h3c; have HZ2 := Lib.hid hz2; have HPE := Lib.hid hPe
          clear hfl h3c hz2 hPe hP
          have h56' : ¬ k < 32 ∨ (k < 32 ∧ bit + k = 8 * l.length) := by omega
          have H56 := Lib.hid h56
          clear h56
          rcases h56' with h5 | ⟨h5, h6⟩
          all_goals
            go_wp2_with (at_make; refine wpList_make_full _ rfl (.tmp 102) (.tmp 102) 22 rfl w.heap.size 5 i0 (.int .u8 0) 1 Try.underlying22 hi hz0 hz1 .i64 .i64 l.length l.length l.length rfl rfl rfl rfl hmb (by unfold maxLen; omega) hbs ?_; intro w5 hown5 hg5)
            have hb5 : Below wr.heap.size wr w5 := Below.grown (Below.refl _ _) hg5 (Nat.le_refl _) (fun k hk => by cases hk)
            have hB5 := HB.out.trans (hb5.mono hbs)
            have hz : (madeCells (Value.int .u8 0).cells (l.length * 1)).toList = bvs (List.replicate l.length 0) := by
              rw [Nat.mul_one, show (Value.int .u8 0).cells = #[.int .u8 0] from rfl, toList_madeCells_one]
              simp [bvs, bv]
            rw [hz] at hown5
            obtain ⟨gz, hgz⟩ : ∃ g, g = wr.heap.size := ⟨_, rfl⟩
            rw [← hgz] at hown5 ⊢
            have oz : Own w5 w.heap.size 5 (.slice (some ⟨gz, 0, none⟩) l.length l.length) (List.replicate l.length 0) := by rw [Own, List.length_replicate]; exact hown5
            have ox : Own w5 w.heap.size 5 (.slice (some ⟨gx, 0, none⟩) l.length cx) xs := by rw [Own, HXL.out]; exact ownsRow_below HXO.out hb5
            have oy : Own w5 w2.heap.size 5 (.slice (some ⟨gy, 0, none⟩) l.length cy) (List.zipWith (· ^^^ ·) l (m.take l.length)) := by
              rw [Own, List.length_zipWith, List.length_take, Nat.min_eq_left hml, Nat.min_self]; exact ownsRow_below HYO.out hb5
            have rz : Bs w5 (some ⟨gz, 0, none⟩) (List.replicate l.length 0) := Own.at oz
            have rx : Bs w5 (some ⟨gx, 0, none⟩) xs := Own.at ox
            have ry : Bs w5 (some ⟨gy, 0, none⟩) (List.zipWith (· ^^^ ·) l (m.take l.length)) := Own.at oy
            have rl : Bs w5 A l := hA.below hB5
            have rm : Bs w5 A2 (m.take l.length) := Bs.take (hA2.below hB5) _
            have kx := fun w' hb => quietB (W := w5) (w := w') hb (crc_any (some ⟨gx, 0, none⟩) cx xs _ (by rw [HXL.out]; omega) (rx.below hb))
            have kl := fun w' hb => quietB (W := w5) (w := w') hb (crc_any A cp l _ (by omega) (rl.below hb))
            have km := fun w' hb => quietB (W := w5) (w := w') hb (crc_any A2 cp2 (m.take l.length) _ (by simp; omega) (rm.below hb))
            have ky := fun w' hb => quietB (W := w5) (w := w') hb (crc_any (some ⟨gy, 0, none⟩) cy (List.zipWith (· ^^^ ·) l (m.take l.length)) _ (by simp; omega) (ry.below hb))
            have kz := fun w' hb => quietB (W := w5) (w := w') hb (crc_any (some ⟨gz, 0, none⟩) l.length (List.replicate l.length 0) _ (by simp; omega) (rz.below hb))
            rw [HXL.out] at kx
            rw [H3C.out] at ky
            rw [List.length_zipWith, List.length_take, Nat.min_eq_left hml, Nat.min_self] at ky
            rw [List.length_take, Nat.min_eq_left hml] at km
            rw [List.length_replicate] at kz
            have q1 := bits_xor_u32 (crcMore_lt 0 l) (crcMore_lt 0 (m.take l.length))
            have q2 := bits_xor_u32 (Nat.xor_lt_two_pow (n := 32) (crcMore_lt 0 l) (crcMore_lt 0 (m.take l.length))) (crcMore_lt 0 (List.replicate l.length 0))
            have hBB := Lib.hid hB5
            clear hz hown5 oz ox oy rz rx ry rl rm hB5 hb5 hg5 hgz
            refine wp_region_quietC (C := fun w' => Below w5.heap.size w5 w') (Below.refl _ _).drew (by kernel_rfl) (by kernel_rfl) ?_
            by_cases hP0 : P = 0
            · rw [HFL.out.2 hP0] at kx
              subst hP0
              repeat (go_big_quiet_step ((intro hb; first | rfl | exact kx _ hb | exact kl _ hb | exact km _ hb | exact ky _ hb | exact kz _ hb)))
              refine wpQuiet_nil ?_
              intro w6 hb6
              go_wp2
              go_ret
              exact ⟨rfl, hBB.out.trans (hb6.mono hBB.out.size)⟩
            · have hne : ¬ crcMore 0 xs = crcMore 0 l := fun e => hP0 (HFL.out.1 e)
              have hne1 : (((crcMore 0 xs : Nat) : Int) != ((crcMore 0 l : Nat) : Int)) = true := by rw [bne_iff_ne]; omega
              have hne2 : (((crcMore 0 xs : Nat) : Int) == ((crcMore 0 l : Nat) : Int)) = false := by rw [beq_eq_false_iff_ne]; omega
              have hd : decide (P = 0) = false := decide_eq_false hP0
              clear hne
              repeat (go_big_quiet_step ((intro hb; first | rfl | exact kx _ hb | exact kl _ hb | exact km _ hb | exact ky _ hb | exact kz _ hb)))
              refine wpQuiet_nil ?_
              intro w6 hb6
              go_wp2
              go_ret
              exact ⟨rfl, hBB.out.trans (hb6.mono hBB.out.size)⟩
theorem sumFlips_go (A : Option Addr) (cp : Nat) (l : List UInt8) (bit pat : Int) (hp : 0 ≤ pat ∧ pat ≤ 4294967295) (A2 : Option Addr) (cp2 : Nat) (m : List UInt8) (hcp2 : m.length ≤ cp2) (hm2 : cp2 ≤ maxLen) (w : World) (hA : Bs w A l) (hA2 : Bs w A2 m) :
    Calls Try.prog 3 #[.slice A l.length cp, .int .i64 bit, .int .u32 pat, .slice A2 m.length cp2] w fun e w' => e = .returned (.bool true) ∧ Below w.heap.size w w' := by
  obtain ⟨n, rfl⟩ : ∃ n : Nat, pat = n := ⟨pat.toNat, by omega⟩
  exact sumFlips_any A cp l bit n (by omega) A2 cp2 m hcp2 (by unfold maxLen at hm2; omega) w hA hA2
end Go.Proofs.Ytpfjkappgdpfbaa
