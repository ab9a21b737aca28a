/- The steps' writers, second part: take, Clip. Condition: lists of bytes have at most 2^40 of them. -/
import Derived.Test.YtpfjkappgdpfbaaDelU
namespace Go.Proofs.Ytpfjkappgdpfbaa
set_option linter.unusedVariables false
open Go.RowKit
set_option maxRecDepth 100000
set_option maxHeartbeats 4000000
theorem Wrote.refl {B b off t : Nat} {cur : Array Value} {v : Value} {x : List UInt8} {w : World} (hb : w.heap[b]? = some (.cells cur t (0, 0))) (hv : cur[off]? = some v) (hw : WinB w B 5 v x) : Wrote B b off cur t v x w w := by
  refine ⟨v, ?_, hw, Kp.refl _ _, .inl rfl⟩
  rw [hb]
  congr 2
  obtain ⟨h1, h2⟩ := Array.getElem?_eq_some_iff.1 hv
  apply Array.ext
  · simp
  · intro i h3 h4
    rw [Array.getElem_setIfInBounds]
    split
    · rename_i e; subst e; exact h2
    · rfl
theorem byte_at (fr i : Nat) : ((fr : Int) / 2 ^ (8 * i)) % 256 = ((fr / 2 ^ (8 * i) % 256 : Nat) : Int) := by
  have e : (fr : Int) / 2 ^ (8 * i) = ((fr / 2 ^ (8 * i) : Nat) : Int) := by rw [Int.natCast_ediv, Int.natCast_pow]; rfl
  rw [e]; omega
theorem encB_lt (fr n i : Nat) : encB fr n i < 256 := by unfold encB; split <;> exact Nat.mod_lt _ (by decide)
theorem encT_len (fr n : Nat) : ∀ i, (encT fr n i).length ≤ i
  | 0 => by simp [encT]
  | i + 1 => by
    have := encT_len fr n i
    rw [encT]; split
    · omega
    · simp; omega
theorem encC_lt (fr n : Nat) : ∀ i, 128 ≤ encC fr n i ∧ encC fr n i < 128 + 2 ^ i
  | 0 => by simp [encC]
  | i + 1 => by
    have := encC_lt fr n i
    rw [encC, Nat.pow_succ]
    split <;> omega
theorem or_bit : ∀ i < 7, ∀ e < 256, 128 ≤ e → e < 128 + 2 ^ i → e ||| 2 ^ i = e + 2 ^ i := by decide +kernel
theorem encC_or {fr n i : Nat} (hi : i < 7) (h : encB fr n i ≠ 0) : bits .or .u8 ((encC fr n i : Nat) : Int) (2 ^ i) = ((encC fr n (i + 1) : Nat) : Int) ∧ IntKind.u8.wrap (2 ^ i) = 2 ^ i := by
  obtain ⟨h1, h2⟩ := encC_lt fr n i
  have hp : 2 ^ i ≤ 2 ^ 6 := Nat.pow_le_pow_right (by decide) (by omega)
  have e : (2 : Int) ^ i = ((2 ^ i : Nat) : Int) := by rw [Int.natCast_pow]; rfl
  constructor
  · rw [e, bits_or_nat .u8 8 (by decide) (fun n h0 h1 => IntWalk.u8_in n (by omega)) (by omega) (by omega), or_bit i hi _ (by omega) h1 h2, encC, if_neg h]
  · rw [e]; exact IntWalk.u8_in _ (by omega)
theorem set_set (cur : Array Value) (off : Nat) (u u' : Value) : (cur.setIfInBounds off u).setIfInBounds off u' = cur.setIfInBounds off u' := by apply Array.ext <;> simp
theorem own_far {v vi : Value} {b s : Nat} (hvb : ¬ v.ownBlock = some b) (hbl : b < s) (hoi : vi.ownBlock = v.ownBlock ∨ ∃ k, vi.ownBlock = some k ∧ s ≤ k) : ¬ vi.ownBlock = some b := by
  rcases hoi with h | ⟨k, h, hk⟩
  · rw [h]; exact hvb
  · rw [h]; intro e; injection e; omega
theorem own_in {v vi : Value} {b s : Nat} (hoi : vi.ownBlock = v.ownBlock ∨ ∃ k, vi.ownBlock = some k ∧ s ≤ k) : ∀ i, i < s → vi.ownBlock = some i → v.ownBlock = some i ∨ i = b := fun i hi e => by
  rcases hoi with h | ⟨k, h, hk⟩
  · rw [← h]; exact .inl e
  · rw [h] at e; injection e; omega
theorem Wrote.app {B b off t : Nat} {cur : Array Value} {v vi v3 : Value} {x'' : List UInt8} {w W W' w3 : World} (hvb : ¬ v.ownBlock = some b) (hbl : b < w.heap.size) (hri : W.heap[b]? = some (.cells (cur.setIfInBounds off vi) t (0, 0)))
    (hki : Kp (fun k => v.ownBlock = some k ∨ k = b) w W) (hoi : vi.ownBlock = v.ownBlock ∨ ∃ k, vi.ownBlock = some k ∧ w.heap.size ≤ k) (hWW : Below W.heap.size W W') (hk3 : Kp (fun k => vi.ownBlock = some k) W' w3)
    (ho3 : v3.ownBlock = vi.ownBlock ∨ v3.ownBlock = some W'.heap.size) (hw3 : WinB w3 B 5 v3 x'') :
    w3.heap[b]? = some (.cells (cur.setIfInBounds off vi) t (0, 0)) ∧ Wrote B b off cur t v x'' w (w3.setCell ⟨b, off, none⟩ v3) := by
  have hbW : b < W.heap.size := Nat.lt_of_lt_of_le hbl hki.size
  have hb3 : w3.heap[b]? = some (.cells (cur.setIfInBounds off vi) t (0, 0)) := (hk3.block b (Nat.lt_of_lt_of_le hbW hWW.size) (own_far hvb hbl hoi)).trans ((hWW.block b hbW).trans hri)
  have ho3' : v3.ownBlock = v.ownBlock ∨ ∃ k, v3.ownBlock = some k ∧ w.heap.size ≤ k := by
    rcases ho3 with h | h
    · rw [h]; exact hoi
    · exact .inr ⟨_, h, Nat.le_trans hki.size hWW.size⟩
  have K3 := ((hki.trans (Kp.ofBelow hWW)).step hk3 (fun i hi h => own_in hoi i hi h)).setCell (p := ⟨b, off, none⟩) (Or.inl (Or.inr rfl)) v3
  refine ⟨hb3, v3, ?_, WinB.setNe hw3 (own_far hvb hbl ho3'), K3, ho3'⟩
  have := heap_setCell_same w3 b off _ t v3 hb3
  rw [this, set_set]
theorem take_any (B b off : Nat) (cur : Array Value) (t : Nat) (v : Value) (x : List UInt8) (fr n : Nat) (w : World) (hb : w.heap[b]? = some (.cells cur t (0, 0))) (hv : cur[off]? = some v) (hw : WinB w B 5 v x) (hne : ¬ v.ownBlock = some b)
    (hl : x.length ≤ 1099511627776) (hfr : fr ≤ 4294967295) (hn0 : 1 ≤ n) (hn : n ≤ 65536) (hB : B ≤ w.heap.size) :
    Calls Try.prog 43 #[.pointer (some ⟨b, off, none⟩), .int .i64 fr, .int .i64 n] w fun e w' => e = .returned (.tuple #[]) ∧ Wrote B b off cur t v (x ++ encCopy fr n) w w' := by
  obtain ⟨A0, c0, rfl, _, _, _⟩ := WinB.reads hw
  have hbl : b < w.heap.size := (Array.getElem?_eq_some_iff.1 hb).1
  have hol : off < cur.size := (Array.getElem?_eq_some_iff.1 hv).1
  have c1 : w.cell? ⟨b, off, none⟩ = some (.slice A0 x.length c0) := by rw [cell_of_row _ _ _ _ _ _ hb]; exact hv
  have hBs : B ≤ (w.alloc (.cells #[.int .u8 128] 5)).heap.size := by simp; omega
  have HV := Lib.hid hv; have HB := Lib.hid hb; have HW := Lib.hid hw; have HN := Lib.hid hne
  clear hv hb hw hne
  by_cases hcut : n = 65536
  · subst hcut
    have hcn : cutN 65536 = 0 := rfl
    have HCN := Lib.hid hcn; clear hcn
    go_enter Try.func43, Try.ntmps43
    go_wp2_with (
      (at_builtin
       refine appW72 72 (.inl rfl) rfl (.tmp 16) (.tmp 17) rfl B _ x rfl (HW.out.below ((Below.refl _ _).alloc (Nat.le_refl _) _)) (some ⟨w.heap.size, 0, none⟩) 1 [128] rfl (Sl.of_block (heap_alloc_new _ _) (one_byte rfl)) (by simp; omega) hBs ?_; intro v2 w2 hw2 hk2 ho2
       obtain ⟨A2, c2, rfl, _, _, _⟩ := WinB.readsN (n := x.length + 1) hw2 (by simp)
       have hb2 : w2.heap[b]? = some (.cells cur t (0, 0)) := (hk2.block b (by simp; omega) (fun e => HN.out e)).trans ((((Below.refl _ _).alloc (Nat.le_refl _) _).block b hbl).trans HB.out)
       have cc2 : w2.cell? ⟨b, off, none⟩ = some (.slice A0 x.length c0) := by rw [cell_of_row _ _ _ _ _ _ hb2]; exact HV.out
       have cf2 : w2.frozen? ⟨b, off, none⟩ = false := frozen_of_row _ _ _ _ _ hb2
       have hn2 := own_ne (s := (w.alloc (.cells #[.int .u8 128] 5)).heap.size) HN.out (by simp; omega) ho2
       have K2 := ((((Kp.refl (fun k => (Value.slice A0 x.length c0).ownBlock = some k ∨ k = b) w).alloc (.cells #[.int .u8 128] 5)).step hk2 (fun i _ h => Or.inl h)).setCell (p := ⟨b, off, none⟩) (Or.inl (Or.inr rfl)) (.slice A2 (x.length + 1) c2))
       have hww : WinB (w2.setCell ⟨b, off, none⟩ (.slice A2 (x.length + 1) c2)) B 5 (.slice A2 (x.length + 1) c2) (x ++ [128]) := WinB.setNe hw2 hn2
       have hr2 : (w2.setCell ⟨b, off, none⟩ (.slice A2 (x.length + 1) c2)).heap[b]? = some (.cells (cur.setIfInBounds off (.slice A2 (x.length + 1) c2)) t (0, 0)) := heap_setCell_same _ _ _ _ _ _ hb2
       have hW2 : Wrote B b off cur t (.slice A0 x.length c0) (x ++ [128]) w (w2.setCell ⟨b, off, none⟩ (.slice A2 (x.length + 1) c2)) := ⟨_, hr2, hww, K2, ho2.imp id (fun h => ⟨_, h, by simp⟩)⟩
       have HW2 := Lib.hid hW2
       clear hn2 hww hr2 K2 hW2 hb2))
    go_loopw [22] (fun t22 wr => ∃ i : Nat, t22 = .int .i64 i ∧ i ≤ 7 ∧ Wrote B b off cur t (.slice A0 x.length c0) (x ++ UInt8.ofNat (encC fr 0 i) :: encT fr 0 i) w wr) (fun t22 _ => 7 - (intOf t22).toNat)
    case atStart => exact ⟨0, rfl, by omega, HW2.out⟩
    case round =>
      obtain ⟨i, rfl, hi, hWi⟩ := hrel
      have HWi := Lib.hid hWi
      obtain ⟨vi, hri, hwi, hki, hoi⟩ := hWi
      clear cc2 cf2 HW2
      have hlen : (x ++ UInt8.ofNat (encC fr 0 i) :: encT fr 0 i).length = x.length + 1 + (encT fr 0 i).length := by simp; omega
      have htl := encT_len fr 0 i
      obtain ⟨g, o, ci, rfl, hBg, hgl, hci, hcm⟩ := Win.form hwi (by rw [hlen]; omega)
      have ci1 : wr.cell? ⟨b, off, none⟩ = some (.slice (some ⟨g, o, none⟩) (x ++ UInt8.ofNat (encC fr 0 i) :: encT fr 0 i).length ci) := by rw [cell_of_row _ _ _ _ _ _ hri]; simp [hol]
      rw [hlen] at ci1
      have hwl : WinB wr B 5 (.slice (some ⟨g, o, none⟩) (x.length + 1 + (encT fr 0 i).length) ci) (x ++ UInt8.ofNat (encC fr 0 i) :: encT fr 0 i) := by rw [← hlen]; exact hwi
      rw [hlen] at hri
      by_cases h7 : i < 7
      · by_cases h4 : i < 4
        · have hby := byte_at fr i
          have hbe : encB fr 0 i = fr / 2 ^ (8 * i) % 256 := if_pos h4
          rw [← hbe] at hby
          clear hbe
          have hbl2 := encB_lt fr 0 i
          have ew2 : 0 ≤ 8 * (i : Int) := by omega
          have ew3 : (8 * (i : Int)).toNat = 8 * i := by omega
          by_cases h0 : encB fr 0 i = 0
          · rw [h0] at hby
            have q0 : decide ((4 : Int) ≤ (i : Int)) = false := decide_eq_false (by omega)
            go_wp2
            go_roundw
            case rel => exact ⟨i + 1, by go_num, by omega, by rw [encC, encT, if_pos h0, if_pos h0]; exact HWi.out⟩
            case measure => simp [intOf]; omega
          · have q0 : decide ((4 : Int) ≤ (i : Int)) = false := decide_eq_false (by omega)
            have q1 : decide ((0 : Int) < (encB fr 0 i : Int)) = true := decide_eq_true (by omega)
            have hcc : wr.cell? ⟨g, o + x.length, none⟩ = some (.int .u8 (encC fr 0 i : Int)) := by
              rw [Win.cellAt hwi x.length (by rw [hlen]; omega)]
              have := encC_lt fr 0 i
              have hp : 2 ^ i ≤ 2 ^ 6 := Nat.pow_le_pow_right (by decide) (by omega)
              simp [bvs, bv]
              omega
            obtain ⟨hor, hpw⟩ := encC_or h7 h0
            have hcf := Win.free hwi (o + x.length)
            go_wp2
            have hix : (x.length : Int) < (x.length : Int) + 1 + ((encT fr 0 i).length : Int) := by omega
            go_still_tail 10, (by kernel_rfl)
            change wpList _ _ _ _ _ wr.drew
            have hcc' : wr.drew.cell? ⟨g, o + x.length, none⟩ = some (.int .u8 (encC fr 0 i : Int)) := hcc
            have hcf' : wr.drew.frozen? ⟨g, o + x.length, none⟩ = false := hcf
            have hgb : b ≠ g := fun e => own_far HN.out hbl hoi (by rw [e]; rfl)
            have hr1 : (wr.setCell ⟨g, o + x.length, none⟩ (.int .u8 (encC fr 0 (i + 1) : Int))).heap[b]? = _ := (heap_setCell_ne wr ⟨g, o + x.length, none⟩ (.int .u8 (encC fr 0 (i + 1) : Int)) b hgb).trans hri
            have ci2 : ((wr.setCell ⟨g, o + x.length, none⟩ (.int .u8 (encC fr 0 (i + 1) : Int))).drew).cell? ⟨b, off, none⟩ = some (.slice (some ⟨g, o, none⟩) (x.length + 1 + (encT fr 0 i).length) ci) := by rw [cell_of_row ((wr.setCell ⟨g, o + x.length, none⟩ (.int .u8 (encC fr 0 (i + 1) : Int))).drew) _ _ _ _ _ hr1]; simp [hol]
            have hw1 : WinB (wr.setCell ⟨g, o + x.length, none⟩ (.int .u8 (encC fr 0 (i + 1) : Int))) B 5 (.slice (some ⟨g, o, none⟩) (x.length + 1 + (encT fr 0 i).length) ci) (x ++ UInt8.ofNat (encC fr 0 (i + 1)) :: encT fr 0 i) := by
              have hs := Win.set hwi x.length (.int .u8 (encC fr 0 (i + 1) : Int))
              rw [hlen] at hs
              have hl2 : (x ++ UInt8.ofNat (encC fr 0 (i + 1)) :: encT fr 0 i).length = x.length + 1 + (encT fr 0 i).length := by simp; omega
              have hb2 : (bvs (x ++ UInt8.ofNat (encC fr 0 i) :: encT fr 0 i)).set x.length (.int .u8 (encC fr 0 (i + 1) : Int)) = bvs (x ++ UInt8.ofNat (encC fr 0 (i + 1)) :: encT fr 0 i) := by
                have := encC_lt fr 0 (i + 1)
                have hp : 2 ^ (i + 1) ≤ 2 ^ 7 := Nat.pow_le_pow_right (by decide) (by omega)
                rw [bvs_append, bvs_append, List.set_append_right _ _ (by simp)]
                simp [bvs, bv]
                omega
              rw [hb2] at hs
              unfold WinB
              rw [hl2]
              exact hs
            have K1 : Kp (fun k => (Value.slice A0 x.length c0).ownBlock = some k ∨ k = b) w (wr.setCell ⟨g, o + x.length, none⟩ (.int .u8 (encC fr 0 (i + 1) : Int))) := (hki.setCell (p := ⟨g, o + x.length, none⟩) (by
              rcases hoi with h | ⟨k, h, hk⟩
              · exact .inl (.inl (by rw [← h]; rfl))
              · injection h with h
                subst h; exact .inr hk) _)
            have E8 : (encB fr 0 i : Int) = ((UInt8.ofNat (encB fr 0 i)).toNat : Int) := by simp; omega
            have hWW : Below (wr.setCell ⟨g, o + x.length, none⟩ (.int .u8 (encC fr 0 (i + 1) : Int))).heap.size (wr.setCell ⟨g, o + x.length, none⟩ (.int .u8 (encC fr 0 (i + 1) : Int))) (((wr.setCell ⟨g, o + x.length, none⟩ (.int .u8 (encC fr 0 (i + 1) : Int))).alloc (.cells #[.int .u8 (encB fr 0 i : Int)] 5)).drew) := ((Below.refl _ _).alloc (Nat.le_refl _) _).drew
            have hal : (((wr.setCell ⟨g, o + x.length, none⟩ (.int .u8 (encC fr 0 (i + 1) : Int))).alloc (.cells #[.int .u8 (encB fr 0 i : Int)] 5)).drew).heap[wr.heap.size]? = some (.cells #[.int .u8 (encB fr 0 i : Int)] 5) := by
              have h := heap_alloc_new (wr.setCell ⟨g, o + x.length, none⟩ (.int .u8 (encC fr 0 (i + 1) : Int))) (.cells #[.int .u8 (encB fr 0 i : Int)] 5)
              rw [show (wr.setCell ⟨g, o + x.length, none⟩ (.int .u8 (encC fr 0 (i + 1) : Int))).heap.size = wr.heap.size by simp] at h
              exact h
            have HWW := Lib.hid hWW; have HAL := Lib.hid hal; clear hWW hal
            have HR1 := Lib.hid hr1; have HW1 := Lib.hid hw1; have HK1 := Lib.hid K1; have HE8 := Lib.hid E8; have HOI := Lib.hid hoi
            clear hr1 hw1 K1 E8 hoi hki hwi hri hwl hcc hcf
            go_wp2_with (
              (at_builtin
               go_must (
               refine appW72 72 (.inl rfl) rfl (.tmp 53) (.tmp 55) rfl B _ (x ++ UInt8.ofNat (encC fr 0 (i + 1)) :: encT fr 0 i) rfl (Win.below HW1.out HWW.out) (some ⟨wr.heap.size, 0, none⟩) 1 [UInt8.ofNat (encB fr 0 i)] rfl (Sl.of_block HAL.out (one_byte HE8.out)) (by simp; omega) (Nat.le_trans hB (Nat.le_trans HK1.out.size HWW.out.size)) ?_
               intro v3 w3 hw3 hk3 ho3
               obtain ⟨A3, c3, rfl, _, _, _⟩ := WinB.readsN (n := x.length + 1 + (encT fr 0 i).length + 1) hw3 (by simp; omega)
               obtain ⟨hb3, hW3⟩ := Wrote.app HN.out hbl HR1.out HK1.out HOI.out HWW.out hk3 ho3 hw3
               have cc3 : w3.cell? ⟨b, off, none⟩ = some (.slice (some ⟨g, o, none⟩) (x.length + 1 + (encT fr 0 i).length) ci) := by rw [cell_of_row _ _ _ _ _ _ hb3]; simp [hol]
               have cf3 : w3.frozen? ⟨b, off, none⟩ = false := frozen_of_row _ _ _ _ _ hb3
               have HW3 := Lib.hid hW3; clear hW3 hb3)))
            go_roundw
            case rel => exact ⟨i + 1, by go_num, by omega, by rw [encT, if_neg h0]; simpa using HW3.out⟩
            case measure => simp [intOf]; omega
        · have h0 : encB fr 0 i = 0 := by unfold encB; rw [if_neg h4]; simp
          have ew2 : 0 ≤ 8 * (i : Int) := by omega
          have ew3 : (8 * (i : Int)).toNat = 8 * i := by omega
          have eg1 : IntKind.i64.wrap ((i : Int) - 4) = ((i - 4 : Nat) : Int) := by rw [IntWalk.i64_in _ (by omega)]; omega
          have eg0 : (i : Int) - 4 = ((i - 4 : Nat) : Int) := by omega
          have eg2 : 0 ≤ 8 * ((i - 4 : Nat) : Int) := by omega
          have eg3 : (8 * ((i - 4 : Nat) : Int)).toNat = 8 * (i - 4) := by omega
          have q0 : decide ((4 : Int) ≤ (i : Int)) = true := decide_eq_true (by omega)
          go_wp2
          go_roundw
          case rel => exact ⟨i + 1, by go_num, by omega, by rw [encC, encT, if_pos h0, if_pos h0]; exact HWi.out⟩
          case measure => simp [intOf]; omega
      · obtain rfl : i = 7 := by omega
        clear hri hki hoi hwi hwl ci1
        go_wp2
        go_end0
        refine ⟨rfl, ?_⟩
        rw [encCopy, HCN.out]
        exact HWi.out
  · have hq : ((n : Int) == 65536) = false := beq_eq_false_iff_ne.2 (by omega)
    have hcn : cutN n = n := if_neg hcut
    have HCN := Lib.hid hcn; clear hcn
    go_enter Try.func43, Try.ntmps43
    go_wp2_with (
      (at_builtin
       refine appW72 72 (.inl rfl) rfl (.tmp 16) (.tmp 17) rfl B _ x rfl (HW.out.below ((Below.refl _ _).alloc (Nat.le_refl _) _)) (some ⟨w.heap.size, 0, none⟩) 1 [128] rfl (Sl.of_block (heap_alloc_new _ _) (one_byte rfl)) (by simp; omega) hBs ?_; intro v2 w2 hw2 hk2 ho2
       obtain ⟨A2, c2, rfl, _, _, _⟩ := WinB.readsN (n := x.length + 1) hw2 (by simp)
       have hb2 : w2.heap[b]? = some (.cells cur t (0, 0)) := (hk2.block b (by simp; omega) (fun e => HN.out e)).trans ((((Below.refl _ _).alloc (Nat.le_refl _) _).block b hbl).trans HB.out)
       have cc2 : w2.cell? ⟨b, off, none⟩ = some (.slice A0 x.length c0) := by rw [cell_of_row _ _ _ _ _ _ hb2]; exact HV.out
       have cf2 : w2.frozen? ⟨b, off, none⟩ = false := frozen_of_row _ _ _ _ _ hb2
       have hn2 := own_ne (s := (w.alloc (.cells #[.int .u8 128] 5)).heap.size) HN.out (by simp; omega) ho2
       have K2 := ((((Kp.refl (fun k => (Value.slice A0 x.length c0).ownBlock = some k ∨ k = b) w).alloc (.cells #[.int .u8 128] 5)).step hk2 (fun i _ h => Or.inl h)).setCell (p := ⟨b, off, none⟩) (Or.inl (Or.inr rfl)) (.slice A2 (x.length + 1) c2))
       have hww : WinB (w2.setCell ⟨b, off, none⟩ (.slice A2 (x.length + 1) c2)) B 5 (.slice A2 (x.length + 1) c2) (x ++ [128]) := WinB.setNe hw2 hn2
       have hr2 : (w2.setCell ⟨b, off, none⟩ (.slice A2 (x.length + 1) c2)).heap[b]? = some (.cells (cur.setIfInBounds off (.slice A2 (x.length + 1) c2)) t (0, 0)) := heap_setCell_same _ _ _ _ _ _ hb2
       have hW2 : Wrote B b off cur t (.slice A0 x.length c0) (x ++ [128]) w (w2.setCell ⟨b, off, none⟩ (.slice A2 (x.length + 1) c2)) := ⟨_, hr2, hww, K2, ho2.imp id (fun h => ⟨_, h, by simp⟩)⟩
       have HW2 := Lib.hid hW2
       clear hn2 hww hr2 K2 hW2 hb2))
    go_loopw [22] (fun t22 wr => ∃ i : Nat, t22 = .int .i64 i ∧ i ≤ 7 ∧ Wrote B b off cur t (.slice A0 x.length c0) (x ++ UInt8.ofNat (encC fr n i) :: encT fr n i) w wr) (fun t22 _ => 7 - (intOf t22).toNat)
    case atStart => exact ⟨0, rfl, by omega, HW2.out⟩
    case round =>
      obtain ⟨i, rfl, hi, hWi⟩ := hrel
      have HWi := Lib.hid hWi
      obtain ⟨vi, hri, hwi, hki, hoi⟩ := hWi
      clear cc2 cf2 HW2
      have hlen : (x ++ UInt8.ofNat (encC fr n i) :: encT fr n i).length = x.length + 1 + (encT fr n i).length := by simp; omega
      have htl := encT_len fr n i
      obtain ⟨g, o, ci, rfl, hBg, hgl, hci, hcm⟩ := Win.form hwi (by rw [hlen]; omega)
      have ci1 : wr.cell? ⟨b, off, none⟩ = some (.slice (some ⟨g, o, none⟩) (x ++ UInt8.ofNat (encC fr n i) :: encT fr n i).length ci) := by rw [cell_of_row _ _ _ _ _ _ hri]; simp [hol]
      rw [hlen] at ci1
      have hwl : WinB wr B 5 (.slice (some ⟨g, o, none⟩) (x.length + 1 + (encT fr n i).length) ci) (x ++ UInt8.ofNat (encC fr n i) :: encT fr n i) := by rw [← hlen]; exact hwi
      rw [hlen] at hri
      by_cases h7 : i < 7
      · by_cases h4 : i < 4
        · have hby := byte_at fr i
          have hbe : encB fr n i = fr / 2 ^ (8 * i) % 256 := if_pos h4
          rw [← hbe] at hby
          clear hbe
          have hbl2 := encB_lt fr n i
          have ew2 : 0 ≤ 8 * (i : Int) := by omega
          have ew3 : (8 * (i : Int)).toNat = 8 * i := by omega
          by_cases h0 : encB fr n i = 0
          · rw [h0] at hby
            have q0 : decide ((4 : Int) ≤ (i : Int)) = false := decide_eq_false (by omega)
            go_wp2
            go_roundw
            case rel => exact ⟨i + 1, by go_num, by omega, by rw [encC, encT, if_pos h0, if_pos h0]; exact HWi.out⟩
            case measure => simp [intOf]; omega
          · have q0 : decide ((4 : Int) ≤ (i : Int)) = false := decide_eq_false (by omega)
            have q1 : decide ((0 : Int) < (encB fr n i : Int)) = true := decide_eq_true (by omega)
            have hcc : wr.cell? ⟨g, o + x.length, none⟩ = some (.int .u8 (encC fr n i : Int)) := by
              rw [Win.cellAt hwi x.length (by rw [hlen]; omega)]
              have := encC_lt fr n i
              have hp : 2 ^ i ≤ 2 ^ 6 := Nat.pow_le_pow_right (by decide) (by omega)
              simp [bvs, bv]
              omega
            obtain ⟨hor, hpw⟩ := encC_or h7 h0
            have hcf := Win.free hwi (o + x.length)
            go_wp2
            have hix : (x.length : Int) < (x.length : Int) + 1 + ((encT fr n i).length : Int) := by omega
            go_still_tail 10, (by kernel_rfl)
            change wpList _ _ _ _ _ wr.drew
            have hcc' : wr.drew.cell? ⟨g, o + x.length, none⟩ = some (.int .u8 (encC fr n i : Int)) := hcc
            have hcf' : wr.drew.frozen? ⟨g, o + x.length, none⟩ = false := hcf
            have hgb : b ≠ g := fun e => own_far HN.out hbl hoi (by rw [e]; rfl)
            have hr1 : (wr.setCell ⟨g, o + x.length, none⟩ (.int .u8 (encC fr n (i + 1) : Int))).heap[b]? = _ := (heap_setCell_ne wr ⟨g, o + x.length, none⟩ (.int .u8 (encC fr n (i + 1) : Int)) b hgb).trans hri
            have ci2 : ((wr.setCell ⟨g, o + x.length, none⟩ (.int .u8 (encC fr n (i + 1) : Int))).drew).cell? ⟨b, off, none⟩ = some (.slice (some ⟨g, o, none⟩) (x.length + 1 + (encT fr n i).length) ci) := by rw [cell_of_row ((wr.setCell ⟨g, o + x.length, none⟩ (.int .u8 (encC fr n (i + 1) : Int))).drew) _ _ _ _ _ hr1]; simp [hol]
            have hw1 : WinB (wr.setCell ⟨g, o + x.length, none⟩ (.int .u8 (encC fr n (i + 1) : Int))) B 5 (.slice (some ⟨g, o, none⟩) (x.length + 1 + (encT fr n i).length) ci) (x ++ UInt8.ofNat (encC fr n (i + 1)) :: encT fr n i) := by
              have hs := Win.set hwi x.length (.int .u8 (encC fr n (i + 1) : Int))
              rw [hlen] at hs
              have hl2 : (x ++ UInt8.ofNat (encC fr n (i + 1)) :: encT fr n i).length = x.length + 1 + (encT fr n i).length := by simp; omega
              have hb2 : (bvs (x ++ UInt8.ofNat (encC fr n i) :: encT fr n i)).set x.length (.int .u8 (encC fr n (i + 1) : Int)) = bvs (x ++ UInt8.ofNat (encC fr n (i + 1)) :: encT fr n i) := by
                have := encC_lt fr n (i + 1)
                have hp : 2 ^ (i + 1) ≤ 2 ^ 7 := Nat.pow_le_pow_right (by decide) (by omega)
                rw [bvs_append, bvs_append, List.set_append_right _ _ (by simp)]
                simp [bvs, bv]
                omega
              rw [hb2] at hs
              unfold WinB
              rw [hl2]
              exact hs
            have K1 : Kp (fun k => (Value.slice A0 x.length c0).ownBlock = some k ∨ k = b) w (wr.setCell ⟨g, o + x.length, none⟩ (.int .u8 (encC fr n (i + 1) : Int))) := (hki.setCell (p := ⟨g, o + x.length, none⟩) (by
              rcases hoi with h | ⟨k, h, hk⟩
              · exact .inl (.inl (by rw [← h]; rfl))
              · injection h with h
                subst h; exact .inr hk) _)
            have E8 : (encB fr n i : Int) = ((UInt8.ofNat (encB fr n i)).toNat : Int) := by simp; omega
            have hWW : Below (wr.setCell ⟨g, o + x.length, none⟩ (.int .u8 (encC fr n (i + 1) : Int))).heap.size (wr.setCell ⟨g, o + x.length, none⟩ (.int .u8 (encC fr n (i + 1) : Int))) (((wr.setCell ⟨g, o + x.length, none⟩ (.int .u8 (encC fr n (i + 1) : Int))).alloc (.cells #[.int .u8 (encB fr n i : Int)] 5)).drew) := ((Below.refl _ _).alloc (Nat.le_refl _) _).drew
            have hal : (((wr.setCell ⟨g, o + x.length, none⟩ (.int .u8 (encC fr n (i + 1) : Int))).alloc (.cells #[.int .u8 (encB fr n i : Int)] 5)).drew).heap[wr.heap.size]? = some (.cells #[.int .u8 (encB fr n i : Int)] 5) := by
              have h := heap_alloc_new (wr.setCell ⟨g, o + x.length, none⟩ (.int .u8 (encC fr n (i + 1) : Int))) (.cells #[.int .u8 (encB fr n i : Int)] 5)
              rw [show (wr.setCell ⟨g, o + x.length, none⟩ (.int .u8 (encC fr n (i + 1) : Int))).heap.size = wr.heap.size by simp] at h
              exact h
            have HWW := Lib.hid hWW; have HAL := Lib.hid hal; clear hWW hal
            have HR1 := Lib.hid hr1; have HW1 := Lib.hid hw1; have HK1 := Lib.hid K1; have HE8 := Lib.hid E8; have HOI := Lib.hid hoi
            clear hr1 hw1 K1 E8 hoi hki hwi hri hwl hcc hcf
            go_wp2_with (
              (at_builtin
               go_must (
               refine appW72 72 (.inl rfl) rfl (.tmp 53) (.tmp 55) rfl B _ (x ++ UInt8.ofNat (encC fr n (i + 1)) :: encT fr n i) rfl (Win.below HW1.out HWW.out) (some ⟨wr.heap.size, 0, none⟩) 1 [UInt8.ofNat (encB fr n i)] rfl (Sl.of_block HAL.out (one_byte HE8.out)) (by simp; omega) (Nat.le_trans hB (Nat.le_trans HK1.out.size HWW.out.size)) ?_
               intro v3 w3 hw3 hk3 ho3
               obtain ⟨A3, c3, rfl, _, _, _⟩ := WinB.readsN (n := x.length + 1 + (encT fr n i).length + 1) hw3 (by simp; omega)
               obtain ⟨hb3, hW3⟩ := Wrote.app HN.out hbl HR1.out HK1.out HOI.out HWW.out hk3 ho3 hw3
               have cc3 : w3.cell? ⟨b, off, none⟩ = some (.slice (some ⟨g, o, none⟩) (x.length + 1 + (encT fr n i).length) ci) := by rw [cell_of_row _ _ _ _ _ _ hb3]; simp [hol]
               have cf3 : w3.frozen? ⟨b, off, none⟩ = false := frozen_of_row _ _ _ _ _ hb3
               have HW3 := Lib.hid hW3; clear hW3 hb3)))
            go_roundw
            case rel => exact ⟨i + 1, by go_num, by omega, by rw [encT, if_neg h0]; simpa using HW3.out⟩
            case measure => simp [intOf]; omega
        · have hby := byte_at n (i - 4)
          have hbe : encB fr n i = n / 2 ^ (8 * (i - 4)) % 256 := if_neg h4
          rw [← hbe] at hby
          clear hbe
          have eg1 : IntKind.i64.wrap ((i : Int) - 4) = ((i - 4 : Nat) : Int) := by rw [IntWalk.i64_in _ (by omega)]; omega
          have eg0 : (i : Int) - 4 = ((i - 4 : Nat) : Int) := by omega
          have eg2 : 0 ≤ 8 * ((i - 4 : Nat) : Int) := by omega
          have eg3 : (8 * ((i - 4 : Nat) : Int)).toNat = 8 * (i - 4) := by omega
          have hbl2 := encB_lt fr n i
          have ew2 : 0 ≤ 8 * (i : Int) := by omega
          have ew3 : (8 * (i : Int)).toNat = 8 * i := by omega
          by_cases h0 : encB fr n i = 0
          · rw [h0] at hby
            have q0 : decide ((4 : Int) ≤ (i : Int)) = true := decide_eq_true (by omega)
            go_wp2
            go_roundw
            case rel => exact ⟨i + 1, by go_num, by omega, by rw [encC, encT, if_pos h0, if_pos h0]; exact HWi.out⟩
            case measure => simp [intOf]; omega
          · have q0 : decide ((4 : Int) ≤ (i : Int)) = true := decide_eq_true (by omega)
            have q1 : decide ((0 : Int) < (encB fr n i : Int)) = true := decide_eq_true (by omega)
            have hcc : wr.cell? ⟨g, o + x.length, none⟩ = some (.int .u8 (encC fr n i : Int)) := by
              rw [Win.cellAt hwi x.length (by rw [hlen]; omega)]
              have := encC_lt fr n i
              have hp : 2 ^ i ≤ 2 ^ 6 := Nat.pow_le_pow_right (by decide) (by omega)
              simp [bvs, bv]
              omega
            obtain ⟨hor, hpw⟩ := encC_or h7 h0
            have hcf := Win.free hwi (o + x.length)
            go_wp2
            have hix : (x.length : Int) < (x.length : Int) + 1 + ((encT fr n i).length : Int) := by omega
            go_still_tail 10, (by kernel_rfl)
            change wpList _ _ _ _ _ wr.drew
            have hcc' : wr.drew.cell? ⟨g, o + x.length, none⟩ = some (.int .u8 (encC fr n i : Int)) := hcc
            have hcf' : wr.drew.frozen? ⟨g, o + x.length, none⟩ = false := hcf
            have hgb : b ≠ g := fun e => own_far HN.out hbl hoi (by rw [e]; rfl)
            have hr1 : (wr.setCell ⟨g, o + x.length, none⟩ (.int .u8 (encC fr n (i + 1) : Int))).heap[b]? = _ := (heap_setCell_ne wr ⟨g, o + x.length, none⟩ (.int .u8 (encC fr n (i + 1) : Int)) b hgb).trans hri
            have ci2 : ((wr.setCell ⟨g, o + x.length, none⟩ (.int .u8 (encC fr n (i + 1) : Int))).drew).cell? ⟨b, off, none⟩ = some (.slice (some ⟨g, o, none⟩) (x.length + 1 + (encT fr n i).length) ci) := by rw [cell_of_row ((wr.setCell ⟨g, o + x.length, none⟩ (.int .u8 (encC fr n (i + 1) : Int))).drew) _ _ _ _ _ hr1]; simp [hol]
            have hw1 : WinB (wr.setCell ⟨g, o + x.length, none⟩ (.int .u8 (encC fr n (i + 1) : Int))) B 5 (.slice (some ⟨g, o, none⟩) (x.length + 1 + (encT fr n i).length) ci) (x ++ UInt8.ofNat (encC fr n (i + 1)) :: encT fr n i) := by
              have hs := Win.set hwi x.length (.int .u8 (encC fr n (i + 1) : Int))
              rw [hlen] at hs
              have hl2 : (x ++ UInt8.ofNat (encC fr n (i + 1)) :: encT fr n i).length = x.length + 1 + (encT fr n i).length := by simp; omega
              have hb2 : (bvs (x ++ UInt8.ofNat (encC fr n i) :: encT fr n i)).set x.length (.int .u8 (encC fr n (i + 1) : Int)) = bvs (x ++ UInt8.ofNat (encC fr n (i + 1)) :: encT fr n i) := by
                have := encC_lt fr n (i + 1)
                have hp : 2 ^ (i + 1) ≤ 2 ^ 7 := Nat.pow_le_pow_right (by decide) (by omega)
                rw [bvs_append, bvs_append, List.set_append_right _ _ (by simp)]
                simp [bvs, bv]
                omega
              rw [hb2] at hs
              unfold WinB
              rw [hl2]
              exact hs
            have K1 : Kp (fun k => (Value.slice A0 x.length c0).ownBlock = some k ∨ k = b) w (wr.setCell ⟨g, o + x.length, none⟩ (.int .u8 (encC fr n (i + 1) : Int))) := (hki.setCell (p := ⟨g, o + x.length, none⟩) (by
              rcases hoi with h | ⟨k, h, hk⟩
              · exact .inl (.inl (by rw [← h]; rfl))
              · injection h with h
                subst h; exact .inr hk) _)
            have E8 : (encB fr n i : Int) = ((UInt8.ofNat (encB fr n i)).toNat : Int) := by simp; omega
            have hWW : Below (wr.setCell ⟨g, o + x.length, none⟩ (.int .u8 (encC fr n (i + 1) : Int))).heap.size (wr.setCell ⟨g, o + x.length, none⟩ (.int .u8 (encC fr n (i + 1) : Int))) (((wr.setCell ⟨g, o + x.length, none⟩ (.int .u8 (encC fr n (i + 1) : Int))).alloc (.cells #[.int .u8 (encB fr n i : Int)] 5)).drew) := ((Below.refl _ _).alloc (Nat.le_refl _) _).drew
            have hal : (((wr.setCell ⟨g, o + x.length, none⟩ (.int .u8 (encC fr n (i + 1) : Int))).alloc (.cells #[.int .u8 (encB fr n i : Int)] 5)).drew).heap[wr.heap.size]? = some (.cells #[.int .u8 (encB fr n i : Int)] 5) := by
              have h := heap_alloc_new (wr.setCell ⟨g, o + x.length, none⟩ (.int .u8 (encC fr n (i + 1) : Int))) (.cells #[.int .u8 (encB fr n i : Int)] 5)
              rw [show (wr.setCell ⟨g, o + x.length, none⟩ (.int .u8 (encC fr n (i + 1) : Int))).heap.size = wr.heap.size by simp] at h
              exact h
            have HWW := Lib.hid hWW; have HAL := Lib.hid hal; clear hWW hal
            have HR1 := Lib.hid hr1; have HW1 := Lib.hid hw1; have HK1 := Lib.hid K1; have HE8 := Lib.hid E8; have HOI := Lib.hid hoi
            clear hr1 hw1 K1 E8 hoi hki hwi hri hwl hcc hcf
            go_wp2_with (
              (at_builtin
               go_must (
               refine appW72 72 (.inl rfl) rfl (.tmp 53) (.tmp 55) rfl B _ (x ++ UInt8.ofNat (encC fr n (i + 1)) :: encT fr n i) rfl (Win.below HW1.out HWW.out) (some ⟨wr.heap.size, 0, none⟩) 1 [UInt8.ofNat (encB fr n i)] rfl (Sl.of_block HAL.out (one_byte HE8.out)) (by simp; omega) (Nat.le_trans hB (Nat.le_trans HK1.out.size HWW.out.size)) ?_
               intro v3 w3 hw3 hk3 ho3
               obtain ⟨A3, c3, rfl, _, _, _⟩ := WinB.readsN (n := x.length + 1 + (encT fr n i).length + 1) hw3 (by simp; omega)
               obtain ⟨hb3, hW3⟩ := Wrote.app HN.out hbl HR1.out HK1.out HOI.out HWW.out hk3 ho3 hw3
               have cc3 : w3.cell? ⟨b, off, none⟩ = some (.slice (some ⟨g, o, none⟩) (x.length + 1 + (encT fr n i).length) ci) := by rw [cell_of_row _ _ _ _ _ _ hb3]; simp [hol]
               have cf3 : w3.frozen? ⟨b, off, none⟩ = false := frozen_of_row _ _ _ _ _ hb3
               have HW3 := Lib.hid hW3; clear hW3 hb3)))
            go_roundw
            case rel => exact ⟨i + 1, by go_num, by omega, by rw [encT, if_neg h0]; simpa using HW3.out⟩
            case measure => simp [intOf]; omega
      · obtain rfl : i = 7 := by omega
        clear hri hki hoi hwi hwl ci1
        go_wp2
        go_end0
        refine ⟨rfl, ?_⟩
        rw [encCopy, HCN.out]
        exact HWi.out
end Go.Proofs.Ytpfjkappgdpfbaa
