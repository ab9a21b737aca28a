/- delta.step computes DelP's stepR. Condition: a list of bytes has at most 2^40 of them. -/
import Derived.Test.YtpfjkappgdpfbaaDelS
import Derived.StillTailTactics
namespace Go.Proofs.Ytpfjkappgdpfbaa
open Go.RowKit
set_option maxRecDepth 100000
set_option maxHeartbeats 400000
/-- what reading a step hands back -/
def StepOut (d : List UInt8) (w : World) (e : Ending) (w' : World) : Prop :=
  (∃ f, stepR d = .error f ∧ e = .returned (.tuple #[.agg #[.bool false, .int .i64 0, .int .i64 0, .slice none 0 0], .int .i64 0, .int .i64 (f : Nat)]) ∧ Below w.heap.size w w') ∨
  (∃ o r v, stepR d = .ok (o, r) ∧ e = .returned (.tuple #[.agg #[.bool o.cp, .int .i64 o.fr, .int .i64 o.n, v], .int .i64 ((d.length - r.length : Nat) : Int), .int .i64 0]) ∧ WinB w' w.heap.size 5 v o.data ∧ Below w.heap.size w w')
theorem results_cell_tmp2 {P : Program} {fn : Func} {p t u : Tmp} {ty : TypeId} (h : fn.results = #[.cell p ty, .tmp t, .tmp u]) (tmps : Array Value) (w : World) (g : Nat) (T : TypeId) (cs : Array Value) (fr : Nat × Nat) (d : TypeDesc)
    (hp : tmps.getD p undef = .pointer (some ⟨g, 0, none⟩)) (hg : w.heap[g]? = some (.cells cs T fr))
    (hu : P.underlying ty = some d) (hd : (match d with | .struct _ | .array _ _ => true | _ => false) = true) (hi : (P.info? ty).map (·.size) = some cs.size) :
    (results fn tmps).run P w = .ok (.tuple #[.agg cs, tmps.getD t undef, tmps.getD u undef]) w := by
  have hp' : tmps[p]?.getD undef = .pointer (some ⟨g, 0, none⟩) := by simpa using hp
  simp [results, h, hp', asAddr, run_loadVar_row w g T ty cs fr d hg hu hd hi]
theorem slice_lh {P : Program} {T : TypeId} (hT : P.underlying T = some (.slice (P.elem T))) (hz : ∀ w : World, (sizeOf (P.elem T)).run P w = .ok 1 w) (A : Option Addr) (n c : Nat) (l h : Int) (m k : Nat) (hm : h - l = m) (hk : l = k) (h0 : 0 ≤ l) (h1 : l ≤ h) (h2 : h ≤ c) (w : World) :
    (Instr.slice T (.slice A n c) (some (.int .i64 l)) (some (.int .i64 h)) none).run P w = .ok (.slice (cutA A c k 1) m (c - k)) w := by
  rw [run_slice_lh (P := P) (t := T) (a := A) (len := n) (cap := c) (ht := hT) (kl := .i64) (kh := .i64) (l := l) (h := h) (h0 := h0) (h1 := h1) (h2 := h2), hz]
  have e1 : h.toNat - k = m := by omega
  have e2 : l.toNat = k := by omega
  simp [Result.andThen, sliced, cutA, e1, e2]
theorem Try.one22 (w : World) : (sizeOf (Try.prog.elem 22)).run Try.prog w = .ok 1 w := by kernel_rfl
theorem pow_8 {k : Nat} (hk : k ≤ 3) : 2 ^ (8 * k) ≤ 16777216 := by
  have : 2 ^ (8 * k) ≤ 2 ^ 24 := Nat.pow_le_pow_right (by decide) (by omega)
  simpa using this
theorem byte_bits {acc x k : Nat} (ha : acc < 2 ^ (8 * k)) (hx : x < 256) (hk : k ≤ 3) : bits .or .i64 (acc : Int) (wrap64 ((x : Int) * 2 ^ (8 * k))) = ((acc ||| x * 2 ^ (8 * k) : Nat) : Int) ∧ acc ||| x * 2 ^ (8 * k) < 2 ^ (8 * (k + 1)) ∧ acc ||| x * 2 ^ (8 * k) < 9223372036854775808 := by
  have h2 := pow_8 hk
  have e : (x : Int) * 2 ^ (8 * k) = ((x * 2 ^ (8 * k) : Nat) : Int) := by rw [Int.natCast_mul, Int.natCast_pow]; rfl
  have h3 : 2 ^ (8 * (k + 1)) = 256 * 2 ^ (8 * k) := by rw [Nat.mul_add, Nat.pow_add]; omega
  have h4 : x * 2 ^ (8 * k) ≤ 255 * 2 ^ (8 * k) := Nat.mul_le_mul_right _ (by omega)
  refine ⟨?_, ?_, ?_⟩
  · rw [e, IntWalk.wrap64_in _ (by omega)]
    exact bits_or_nat .i64 63 (by decide) (fun n h0 h1 => IntWalk.i64_in n (by omega)) (by omega) (by omega)
  · rw [or_add _ ha]; omega
  · rw [or_add _ ha]; omega
theorem tst_u8 (x k : Nat) (hx : x < 256) : bits .and .u8 ((x : Int) / 2 ^ k) 1 = ((x / 2 ^ k % 2 : Nat) : Int) := by
  have e : (x : Int) / 2 ^ k = ((x / 2 ^ k : Nat) : Int) := by rw [Int.natCast_ediv, Int.natCast_pow]; rfl
  have hl : x / 2 ^ k < 256 := Nat.lt_of_le_of_lt (Nat.div_le_self _ _) hx
  have := (bits_nat .u8 8 (by decide) (fun n h0 h1 => IntWalk.u8_in n (by omega)) (x / 2 ^ k) (2 ^ 1 - 1) hl (by decide)).1
  rw [Nat.and_two_pow_sub_one_eq_mod] at this
  rw [e]; exact this
abbrev cOp (fr n : Nat) : Array Value := #[.bool true, .int .i64 (fr : Nat), .int .i64 (n : Nat), .slice none 0 0]
abbrev zOp : Obj := .cells #[.bool false, .int .i64 0, .int .i64 0, .slice none 0 0] 37
theorem step_any (A : Option Addr) (c : Nat) (d : List UInt8) (w : World) (hl : d.length ≤ 1099511627776) (h0 : 0 < d.length) (hc : d.length ≤ c) (hA : Bs w A d) :
    Calls Try.prog 49 #[.slice A d.length c] w (StepOut d w) := by
  obtain ⟨x, d, rfl⟩ : ∃ x r, d = x :: r := by cases d with
    | nil => simp at h0
    | cons x r => exact ⟨x, r, rfl⟩
  have hb0 : Below w.heap.size w (w.alloc zOp) := (Below.refl _ _).alloc (Nat.le_refl _) _
  have hA1 := Sl.below hA hb0
  obtain ⟨ad, rfl, hc0⟩ := Bs.at hA1 h0
  have hx := x.toNat_lt
  have hz0 : (w.alloc zOp).heap[w.heap.size]? = some zOp := heap_alloc_new _ _
  simp only [List.getElem_cons_zero, show ad.add 0 = ad by unfold Addr.add; simp, zOp] at hc0
  by_cases hx0 : x.toNat = 0
  · have hd : ((x.toNat : Int) == 0) = true := by simp [hx0]
    have HX := Lib.hid hx0; clear hx0
    go_enter Try.func49, Try.ntmps49
    go_wp2
    refine bodyPost_ret (v := .tuple #[.agg #[.bool false, .int .i64 0, .int .i64 0, .slice none 0 0], .int .i64 0, .int .i64 2]) (by simp [results, Try.results49, go_sem]) rfl ?_
    exact .inl ⟨2, by rw [stepR, if_pos HX.out], rfl, (Below.refl _ _).alloc (Nat.le_refl _) _⟩
  have hd0 : ((x.toNat : Int) == 0) = false := by simp [hx0]
  by_cases hx1 : x.toNat < 128
  · by_cases hs : d.length < x.toNat
    · have HX := Lib.hid hx0; clear hx0
      go_enter Try.func49, Try.ntmps49
      go_wp2
      refine bodyPost_ret (v := .tuple #[.agg #[.bool false, .int .i64 0, .int .i64 0, .slice none 0 0], .int .i64 0, .int .i64 3]) (by simp [results, Try.results49, go_sem]) rfl ?_
      exact .inl ⟨3, by rw [stepR, if_neg HX.out, if_pos hx1, if_pos hs], rfl, (Below.refl _ _).alloc (Nat.le_refl _) _⟩
    · have HX := Lib.hid hx0; clear hx0
      have hsl := slice_lh Try.underlying22 Try.one22 (some ad) (d.length + 1) c 1 (1 + (x.toNat : Int)) x.toNat 1 (by omega) rfl (by omega) (by omega) (by simp at hc; omega)
      have hbs : Bs (w.alloc zOp) (cutA (some ad) c 1 1) (d.take x.toNat) := by
        have := Bs.take (Bs.cut hA1 1 c hc) x.toNat
        simpa using this
      have htk : (d.take x.toNat).length = x.toNat := by simp; omega
      have k1 := clone_any (cutA (some ad) c 1 1) (c - 1) (d.take x.toNat) (w.alloc zOp) (by simp; simp at hl; omega) hbs
      rw [List.length_take, Nat.min_eq_left (by omega)] at k1
      go_enter Try.func49, Try.ntmps49
      go_wp2_with (first
        | (go_at_call 51; (with_reducible refine k1.mono ?_); rintro e w2 ⟨v2, rfl, hw2, hb2⟩
           obtain ⟨A2, c2, rfl, hc2, _, _⟩ := WinB.readsN hw2 htk
           have hz2 := (hb2.block w.heap.size (by simp)).trans hz0
           simp only [zOp] at hz2
           have HZ2 := Lib.hid hz2; clear hz2)
        | (go_at_call 58; (with_reducible refine (clip22 A2 _ c2 hc2 w2).mono ?_); rintro e w3 ⟨rfl, rfl⟩)
        | (have tok := HZ2; refine wpList_store_row rfl 37 (.tmp 2) (.tmp 34) rfl w.heap.size #[.bool false, .int .i64 0, .int .i64 0, .slice A2 x.toNat x.toNat] rfl rfl 37 _ HZ2.out (by kernel_rfl) rfl (by simp [Value.oneCell']) ?_))
      refine bodyPost_ret (results_cell_tmp2 rfl _ _ w.heap.size 37 #[.bool false, .int .i64 0, .int .i64 0, .slice A2 x.toNat x.toNat] (0, 0) _ rfl (setRow_heap _ _ _ _ _ _ HZ2.out) Try.underlying37 rfl (by kernel_rfl)) rfl ?_
      have hb3 : Below w.heap.size w (w2.setRow w.heap.size #[.bool false, .int .i64 0, .int .i64 0, .slice A2 x.toNat x.toNat]) := below_setRow (hb0.trans (hb2.mono (by simp))) (Nat.le_refl _) _
      refine .inr ⟨⟨false, 0, 0, d.take x.toNat⟩, d.drop x.toNat, .slice A2 x.toNat x.toNat, by rw [stepR, if_neg HX.out, if_pos hx1, if_neg hs], ?_, ?_, hb3⟩
      · simp
        omega
      · have := WinB.clip hw2 htk.symm
        refine Win.keep (Win.base this (by simp)) (fun g hg => setRow_other _ _ _ _ ?_)
        have := (Win.block this g hg).1
        simp at this; omega
  · have HX := Lib.hid hx0; clear hx0
    have hz1 : ((w.alloc zOp).alloc (.cells (cOp 0 0) 37)).heap[w.heap.size + 1]? = some (.cells (cOp 0 0) 37) := heap_alloc2_new _ _ _
    have hz2 : ((w.alloc zOp).alloc (.cells (cOp 0 0) 37)).heap[w.heap.size]? = some zOp := heap_alloc2_old _ _ _
    have hb1 : Below w.heap.size w ((w.alloc zOp).alloc (.cells (cOp 0 0) 37)) := hb0.alloc (by simp) _
    have Z1 := Lib.hid hz1; have Z2 := Lib.hid hz2; clear hz1 hz2 hz0
    go_enter Try.func49, Try.ntmps49
    go_wp2
    go_loopw [8, 38] (fun t8 t38 wr => ∃ (i a fr n : Nat), i ≤ 7 ∧ t38 = .int .i64 i ∧ 1 ≤ a ∧ a ≤ (x :: d).length ∧ t8 = .int .i64 a ∧ cpR x.toNat (7 - i) ((x :: d).drop a) fr n = cpR x.toNat 7 d 0 0 ∧ fr < 2 ^ (8 * min i 4) ∧ n < 2 ^ (8 * (i - 4)) ∧
      wr.heap[w.heap.size + 1]? = some (.cells (cOp fr n) 37 (0, 0)) ∧ wr.heap[w.heap.size]? = some zOp ∧ Below w.heap.size w wr) (fun _ t38 _ => 7 - (intOf t38).toNat)
    case atStart => exact ⟨0, 1, 0, 0, by omega, rfl, by omega, by simp, rfl, rfl, by decide, by decide, Z1.out, Z2.out, hb1⟩
    case round =>
      clear hb1 Z1 Z2 hA1 hc0
      obtain ⟨i, a, fr, n, hi, rfl, ha1, ha, rfl, hcp, hfr, hn, hc1, hc2, hb⟩ := hrel
      have HA := Lib.hid ha; clear ha
      have HC1 := Lib.hid hc1; have HC2 := Lib.hid hc2; have HCP := Lib.hid hcp; have HFR := Lib.hid hfr; have HN := Lib.hid hn
      clear hc1 hc2 hcp hfr hn
      by_cases h7 : i < 7
      · have htst := tst_u8 x.toNat i hx
        by_cases hbit : x.toNat / 2 ^ i % 2 = 0
        · rw [hbit] at htst
          have HBIT := Lib.hid hbit; clear hbit
          go_wp2
          go_roundw
          case rel =>
            refine ⟨i + 1, a, fr, n, by omega, by go_num, ha1, HA.out, rfl, ?_, ?_, ?_, HC1.out, HC2.out, hb⟩
            · rw [← HCP.out, show 7 - i = (7 - (i + 1)) + 1 by omega, cpR_no (by rw [show 6 - (7 - (i + 1)) = i by omega]; exact HBIT.out)]
            · exact Nat.lt_of_lt_of_le HFR.out (Nat.pow_le_pow_right (by decide) (by omega))
            · exact Nat.lt_of_lt_of_le HN.out (Nat.pow_le_pow_right (by decide) (by omega))
          case measure => simp [intOf]; omega
        · rw [show x.toNat / 2 ^ i % 2 = 1 by omega] at htst
          have HBIT := Lib.hid hbit; clear hbit
          have HAA := HA.out
          simp only [List.length_cons] at HAA
          by_cases hend : a = d.length + 1
          · have hq : ((a : Int) == (d.length : Int) + 1) = true := by simp [hend]
            have HEND := Lib.hid hend; clear hend HAA
            go_wp2_with (refine wpList_store_row rfl 37 (.tmp 2) (.tmp 50) rfl w.heap.size #[.bool false, .int .i64 0, .int .i64 0, .slice none 0 0] rfl rfl 37 _ HC2.out (by kernel_rfl) rfl (by simp [Value.oneCell']) ?_)
            refine bodyPost_ret (results_cell_tmp2 rfl _ _ w.heap.size 37 #[.bool false, .int .i64 0, .int .i64 0, .slice none 0 0] (0, 0) _ rfl (setRow_heap _ _ _ _ _ _ HC2.out) Try.underlying37 rfl (by kernel_rfl)) rfl ?_
            refine .inl ⟨3, ?_, rfl, below_setRow hb (Nat.le_refl _) _⟩
            have h3 : cpR x.toNat 7 d 0 0 = none := by
              rw [← HCP.out, HEND.out, show 7 - i = (6 - i) + 1 by omega, List.drop_eq_nil_of_le (by simp)]
              exact cpR_end (by rw [show 6 - (6 - i) = i by omega]; exact HBIT.out)
            rw [stepR, if_neg HX.out, if_neg hx1, h3]
          · have hq : ((a : Int) == (d.length : Int) + 1) = false := by simp; omega
            have hal : a < (x :: d).length := by simp; omega
            obtain ⟨ad', e', hca⟩ := Bs.at (Sl.below hA hb) hal
            injection e' with e'
            subst e'
            have hal2 : a < d.length + 1 := by simpa using hal
            obtain ⟨y, hy⟩ : ∃ y, y = (x :: d)[a] := ⟨_, rfl⟩
            have hdr : (x :: d).drop a = y :: (x :: d).drop (a + 1) := by rw [hy]; exact List.drop_eq_getElem_cons hal
            rw [← hy] at hca
            have hyl := y.toNat_lt
            have HDR := Lib.hid hdr; clear hdr hy
            have hcp2 := HCP.out
            rw [show 7 - i = (6 - i) + 1 by omega, HDR.out, cpR_yes (by rw [show 6 - (6 - i) = i by omega]; exact HBIT.out), show 6 - (6 - i) = i by omega] at hcp2
            by_cases h4 : i < 4
            · have hc1 : wr.cell? ⟨w.heap.size + 1, 1, none⟩ = some (.int .i64 (fr : Nat)) := by rw [cell_of_row _ _ _ _ _ _ HC1.out]; rfl
              have hcf : wr.frozen? ⟨w.heap.size + 1, 1, none⟩ = false := frozen_of_row _ _ _ _ _ HC1.out
              have hfr := HFR.out
              rw [Nat.min_eq_left (by omega)] at hfr
              obtain ⟨hbits, hlt2, hb63⟩ := byte_bits hfr hyl (show i ≤ 3 by omega)
              rw [if_pos h4] at hcp2
              have HL2 := Lib.hid hlt2; have HCP2 := Lib.hid hcp2; clear hlt2 hcp2 hfr hb63
              go_wp2
              have hal3 : (a : Int) < (d.length : Int) + 1 := by omega
              have ew1 : IntKind.i64.wrap (8 * (i : Int)) = 8 * (i : Int) := IntWalk.i64_in _ (by omega)
              have ew2 : 0 ≤ 8 * (i : Int) := by omega
              have ew3 : (8 * (i : Int)).toNat = 8 * i := by omega
              go_still_tail 12, (by kernel_rfl)
              change wpList _ _ _ _ _ wr.drew
              have hc1' : wr.drew.cell? ⟨w.heap.size + 1, 1, none⟩ = some (.int .i64 (fr : Nat)) := hc1
              have hcf' : wr.drew.frozen? ⟨w.heap.size + 1, 1, none⟩ = false := hcf
              clear ew1 ew2 ew3
              go_wp2
              go_roundw
              case rel =>
                refine ⟨i + 1, a + 1, fr ||| y.toNat * 2 ^ (8 * i), n, by omega, by go_num, by omega, by simp; omega, by go_num, ?_, ?_, ?_, ?_, ?_, ?_⟩
                · rw [show 7 - (i + 1) = 6 - i by omega]; exact HCP2.out
                · rw [Nat.min_eq_left (by omega)]; exact HL2.out
                · exact Nat.lt_of_lt_of_le HN.out (Nat.pow_le_pow_right (by decide) (by omega))
                · exact heap_setCell_same wr _ 1 _ 37 _ HC1.out
                · exact (heap_setCell_other wr _ _ _ (by simp)).trans HC2.out
                · exact Below.drew (Below.setCell hb (by simp) _)
              case measure => simp [intOf]; omega
            · have hc1 : wr.cell? ⟨w.heap.size + 1, 2, none⟩ = some (.int .i64 (n : Nat)) := by rw [cell_of_row _ _ _ _ _ _ HC1.out]; rfl
              have hcf : wr.frozen? ⟨w.heap.size + 1, 2, none⟩ = false := frozen_of_row _ _ _ _ _ HC1.out
              obtain ⟨hbits, hlt2, hb63⟩ := byte_bits HN.out hyl (show i - 4 ≤ 3 by omega)
              rw [if_neg h4] at hcp2
              have HL2 := Lib.hid hlt2; have HCP2 := Lib.hid hcp2; clear hlt2 hcp2 hb63
              go_wp2
              have hal3 : (a : Int) < (d.length : Int) + 1 := by omega
              have ew0 : IntKind.i64.wrap ((i : Int) - 4) = ((i - 4 : Nat) : Int) := by rw [IntWalk.i64_in _ (by omega)]; omega
              have ew1 : IntKind.i64.wrap (8 * ((i - 4 : Nat) : Int)) = 8 * ((i - 4 : Nat) : Int) := IntWalk.i64_in _ (by omega)
              have ew2 : 0 ≤ 8 * ((i - 4 : Nat) : Int) := by omega
              have ew3 : (8 * ((i - 4 : Nat) : Int)).toNat = 8 * (i - 4) := by omega
              go_still_tail 13, (by kernel_rfl)
              change wpList _ _ _ _ _ wr.drew
              have hc1' : wr.drew.cell? ⟨w.heap.size + 1, 2, none⟩ = some (.int .i64 (n : Nat)) := hc1
              have hcf' : wr.drew.frozen? ⟨w.heap.size + 1, 2, none⟩ = false := hcf
              clear ew0 ew1 ew2 ew3
              go_wp2
              go_roundw
              case rel =>
                refine ⟨i + 1, a + 1, fr, n ||| y.toNat * 2 ^ (8 * (i - 4)), by omega, by go_num, by omega, by simp; omega, by go_num, ?_, ?_, ?_, ?_, ?_, ?_⟩
                · rw [show 7 - (i + 1) = 6 - i by omega]; exact HCP2.out
                · exact Nat.lt_of_lt_of_le HFR.out (Nat.pow_le_pow_right (by decide) (by omega))
                · rw [show i + 1 - 4 = i - 4 + 1 by omega]; exact HL2.out
                · exact heap_setCell_same wr _ 2 _ 37 _ HC1.out
                · exact (heap_setCell_other wr _ _ _ (by simp)).trans HC2.out
                · exact Below.drew (Below.setCell hb (by simp) _)
              case measure => simp [intOf]; omega
      · obtain rfl : i = 7 := by omega
        have hcp3 := HCP.out
        rw [Nat.sub_self, cpR] at hcp3
        have hc1 : wr.cell? ⟨w.heap.size + 1, 2, none⟩ = some (.int .i64 (n : Nat)) := by rw [cell_of_row _ _ _ _ _ _ HC1.out]; rfl
        have hcf : wr.frozen? ⟨w.heap.size + 1, 2, none⟩ = false := frozen_of_row _ _ _ _ _ HC1.out
        have HCP3 := Lib.hid hcp3; clear hcp3
        by_cases hn0 : n = 0
        · have hq : ((n : Int) == 0) = true := by simp [hn0]
          have HN0 := Lib.hid hn0; clear hn0
          have hc3 : (wr.setCell ⟨w.heap.size + 1, 2, none⟩ (.int .i64 65536)).heap[w.heap.size + 1]? = some (.cells (cOp fr 65536) 37 (0, 0)) := heap_setCell_same wr _ 2 _ 37 _ HC1.out
          have hc4 : (wr.setCell ⟨w.heap.size + 1, 2, none⟩ (.int .i64 65536)).heap[w.heap.size]? = some zOp := (heap_setCell_other wr _ _ _ (by simp)).trans HC2.out
          have H3 := Lib.hid hc3; have H4 := Lib.hid hc4; clear hc3 hc4
          go_wp2_with (first
            | (refine wpList_load_row rfl 37 (.tmp 7) rfl (w.heap.size + 1) rfl 37 (cOp fr 65536) (0, 0) _ H3.out Try.underlying37 rfl (by kernel_rfl) ?_)
            | (refine wpList_store_row rfl 37 (.tmp 2) (.tmp 85) rfl w.heap.size (cOp fr 65536) rfl rfl 37 _ H4.out (by kernel_rfl) rfl (by simp [Value.oneCell']) ?_))
          refine bodyPost_ret (results_cell_tmp2 rfl _ _ w.heap.size 37 (cOp fr 65536) (0, 0) _ rfl (setRow_heap _ _ _ _ _ _ H4.out) Try.underlying37 rfl (by kernel_rfl)) rfl ?_
          have hla := HA.out
          refine .inr ⟨⟨true, fr, (65536 : Nat), []⟩, (x :: d).drop a, .slice none 0 0, ?_, ?_, Win.nil _ _ _ _, below_setRow (Below.setCell hb (by simp) _) (Nat.le_refl _) _⟩
          · rw [stepR, if_neg HX.out, if_neg hx1, ← HCP3.out]
            simp [HN0.out]
          · simp [cOp, List.length_drop]
            simp at hla
            omega
        · have hq : ((n : Int) == 0) = false := by simp [hn0]
          have HN0 := Lib.hid hn0; clear hn0
          go_wp2_with (first
            | (refine wpList_load_row rfl 37 (.tmp 7) rfl (w.heap.size + 1) rfl 37 (cOp fr n) (0, 0) _ HC1.out Try.underlying37 rfl (by kernel_rfl) ?_)
            | (refine wpList_store_row rfl 37 (.tmp 2) (.tmp 85) rfl w.heap.size (cOp fr n) rfl rfl 37 _ HC2.out (by kernel_rfl) rfl (by simp [Value.oneCell']) ?_))
          refine bodyPost_ret (results_cell_tmp2 rfl _ _ w.heap.size 37 (cOp fr n) (0, 0) _ rfl (setRow_heap _ _ _ _ _ _ HC2.out) Try.underlying37 rfl (by kernel_rfl)) rfl ?_
          have hla := HA.out
          refine .inr ⟨⟨true, fr, (n : Nat), []⟩, (x :: d).drop a, .slice none 0 0, ?_, ?_, Win.nil _ _ _ _, below_setRow (hb) (Nat.le_refl _) _⟩
          · rw [stepR, if_neg HX.out, if_neg hx1, ← HCP3.out]
            simp [HN0.out]
          · simp [cOp, List.length_drop]
            simp at hla
            omega
end Go.Proofs.Ytpfjkappgdpfbaa
