/- The reference's Parse computes DelP's deltaR. Condition: a list of bytes has at most 2^40 of them. -/
import Derived.Test.YtpfjkappgdpfbaaDelR
import Derived.StillTailTactics
namespace Go.Proofs.Ytpfjkappgdpfbaa
open Go.RowKit
set_option maxRecDepth 100000
set_option maxHeartbeats 4000000
theorem Try.info56 : (Try.prog.info? 56).map (fun i => (i.zero, i.size, i.bytes)) = some (some (.agg #[.bool false, .int .i64 0, .int .i64 0, .slice none 0 0]), 4, 48) := by kernel_rfl
theorem appW43 {w : World} {ops : Array Oper} {rest : List Oper} {o : Oper} {a : Act} {Q : Exit → Act → World → Prop} (hgd : o.guard = none) (s x : Operand)
    (ho : o.op = .call { callee := .builtin .append, args := #[s, x], argTypes := #[43, 43] })
    (B : Nat) (v : Value) (l : List DOp) (vs : List Value) (hs : a.eval s = v) (hown : Win w B 56 4 v l.length (flatOps vs l)) (A : Option Addr) (c : Nat) (d : Value) (p : DOp) (h1 : d.oneCell' = true) (hx : a.eval x = .slice A 1 c) (hA : Sl w A (opCells d p))
    (hb : l.length ≤ 1099511627776) (hB : B ≤ w.heap.size)
    (h : ∀ v' w', Win w' B 56 4 v' (l.length + 1) (flatOps vs l ++ opCells d p) → Kp (fun k => v.ownBlock = some k) w w' → (v'.ownBlock = v.ownBlock ∨ v'.ownBlock = some w.heap.size) → wpList Try.prog ops Q rest (a.put o.dst v') w') : wpList Try.prog ops Q (o :: rest) a w :=
  wpList_appW hgd s x 43 43 ho B 56 _ 4 48 Try.underlying43 Try.info56 rfl (by decide) v l.length (flatOps vs l) hs hown (.slice A 1 c) 1 (opCells d p) hx (srcOf Try.underlying43 (by decide) (by simp [opCells]) hA (fun u hu => by simp [opCells] at hu; rcases hu with rfl | rfl | rfl | rfl <;> first | rfl | exact h1)) (by omega) (by unfold maxLen; omega) hB h
theorem tst_i64 (x k : Nat) (hx : x < 256) : bits .and .i64 ((x : Int) / 2 ^ k) 1 = ((x / 2 ^ k % 2 : Nat) : Int) := by
  have e : (x : Int) / 2 ^ k = ((x / 2 ^ k : Nat) : Int) := by rw [Int.natCast_ediv, Int.natCast_pow]; rfl
  have hl : x / 2 ^ k < 256 := Nat.lt_of_le_of_lt (Nat.div_le_self _ _) hx
  have := (bits_nat .i64 63 (by decide) (fun n h0 h1 => IntWalk.i64_in n (by omega)) (x / 2 ^ k) (2 ^ 1 - 1) (by omega) (by decide)).1
  rw [Nat.and_two_pow_sub_one_eq_mod] at this
  rw [e]; exact this
def ParseOutR (d : List UInt8) (w : World) (e : Ending) (w' : World) : Prop :=
  ∃ v, e = .returned (.tuple #[.int .i64 (deltaR d).1, .int .i64 (deltaR d).2.1, v, .int .i64 (deltaR d).2.2.2]) ∧ OpsW w' w.heap.size 56 v (deltaR d).2.2.1 ∧ Below w.heap.size w w'
theorem parseRef_any (A : Option Addr) (c : Nat) (d : List UInt8) (w : World) (hl : d.length ≤ 1099511627776) (hc : d.length ≤ c) (hA : Bs w A d) :
    Calls Try.prog 36 #[.slice A d.length c] w (ParseOutR d w) := by
  have k1 := sizesRef_any A c d w hl hc hA
  by_cases he : (sizesR d).2.2.2 = 0
  · obtain ⟨hn, hb, ho⟩ := sizesR_ok he
    have hR : deltaR d = (match parseR (d.drop (sizesR d).2.2.1) with | .error e => (0, 0, [], e) | .ok l => ((sizesR d).1, (sizesR d).2.1, l, 0)) := by unfold deltaR; rw [if_pos he]; rfl
    rw [he] at k1
    obtain ⟨b, hbe⟩ : ∃ b, b = (sizesR d).1 := ⟨_, rfl⟩
    obtain ⟨o, hoe⟩ : ∃ o, o = (sizesR d).2.1 := ⟨_, rfl⟩
    obtain ⟨n, hne⟩ : ∃ n, n = (sizesR d).2.2.1 := ⟨_, rfl⟩
    rw [← hbe, ← hoe, ← hne] at k1 hR
    rw [← hbe] at hb
    rw [← hoe] at ho
    rw [← hne] at hn
    have HR := Lib.hid hR
    clear hR he hbe hoe hne
    go_enter Try.func36, Try.ntmps36
    go_wp2_with (go_at_call 35; (with_reducible refine k1.mono ?_; rintro e w' ⟨rfl, rfl⟩))
    clear k1
    go_loopw [8, 10] (fun t8 t10 wr => ∃ (a : Nat) (acc : List DOp), t8 = .int .i64 a ∧ a ≤ d.length ∧ contR acc (parseR (d.drop a)) = parseR (d.drop n) ∧ acc.length ≤ a ∧
      OpsW wr w.heap.size 56 t10 acc ∧ Below w.heap.size w wr) (fun t8 _ _ => d.length - (intOf t8).toNat)
    case atStart => exact ⟨n, [], rfl, hn, by cases parseR (d.drop n) <;> simp [contR], by simp, OpsW.nil _ _ _, Below.refl _ _⟩
    case round =>
      obtain ⟨a, acc, rfl, ha, hpar, hlen, hops, hb⟩ := hrel
      have HP := Lib.hid hpar; clear hpar
      have HO := Lib.hid hops; clear hops
      by_cases hr0 : a < d.length
      · obtain ⟨ad, rfl, hca⟩ := Bs.at (hA.below hb) hr0
        have hdr : d.drop a = d[a] :: d.drop (a + 1) := List.drop_eq_getElem_cons hr0
        obtain ⟨y, hy⟩ : ∃ y, y = d[a] := ⟨_, rfl⟩
        rw [← hy] at hca hdr
        have hyl := y.toNat_lt
        have HDR := Lib.hid hdr; clear hdr hy
        obtain ⟨vs, hvs, hwin, hdata⟩ := HO.out
        have HV := Lib.hid hvs; have HW := Lib.hid hwin; have HDT := Lib.hid hdata
        clear hvs hwin hdata
        have hne : d.drop a ≠ [] := by rw [HDR.out]; simp
        by_cases hx0 : y.toNat = 0
        · have hq : ((y.toNat : Int) == 0) = true := by simp [hx0]
          have hst : stepR (d.drop a) = .error 2 := by rw [HDR.out, stepR, if_pos hx0]
          have hpe := parseR_bad hne hst
          have hR2 : deltaR d = (0, 0, [], 2) := by rw [HR.out, ← HP.out, contR_err hpe]
          have HR2 := Lib.hid hR2; clear hR2 hpe hst hx0 hne
          go_wp2
          refine bodyPost_ret (results_tmp4 rfl _ _ _) rfl ?_
          exact ⟨.slice none 0 0, by rw [HR2.out]; rfl, by rw [HR2.out]; exact OpsW.nil _ _ _, hb⟩
        have hq0 : ((y.toNat : Int) == 0) = false := by simp [hx0]
        by_cases hx1 : y.toNat < 128
        · by_cases hs : d.length - (a + 1) < y.toNat
          · have hst : stepR (d.drop a) = .error 3 := by rw [HDR.out, stepR, if_neg hx0, if_pos hx1, if_pos (by rw [List.length_drop]; exact hs)]
            have hpe := parseR_bad hne hst
            have hR2 : deltaR d = (0, 0, [], 3) := by rw [HR.out, ← HP.out, contR_err hpe]
            have HR2 := Lib.hid hR2; clear hR2 hpe hst hx0 hne
            go_wp2
            refine bodyPost_ret (results_tmp4 rfl _ _ _) rfl ?_
            exact ⟨.slice none 0 0, by rw [HR2.out]; rfl, by rw [HR2.out]; exact OpsW.nil _ _ _, hb⟩
          · have hst : stepR (d.drop a) = .ok (⟨false, 0, 0, (d.drop (a + 1)).take y.toNat⟩, (d.drop (a + 1)).drop y.toNat) := by rw [HDR.out, stepR, if_neg hx0, if_pos hx1, if_neg (by rw [List.length_drop]; exact hs)]
            have hcs := contR_step (acc := acc) hst
            rw [List.drop_drop] at hcs
            have HCS := Lib.hid hcs; clear hcs hst hx0 hne
            have hsl := slice_lh Try.underlying22 Try.one22 (some ad) d.length c ((a : Int) + 1) ((a : Int) + 1 + (y.toNat : Int)) y.toNat (a + 1) (by omega) (by omega) (by omega) (by omega) (by omega)
            have hbs : Bs wr (cutA (some ad) c (a + 1) 1) ((d.drop (a + 1)).take y.toNat) := Bs.take (Bs.cut (hA.below hb) (a + 1) c hc) _
            have htk : ((d.drop (a + 1)).take y.toNat).length = y.toNat := by simp; omega
            obtain ⟨x, hx⟩ : ∃ x, x = (d.drop (a + 1)).take y.toNat := ⟨_, rfl⟩
            rw [← hx] at HCS hbs htk
            have HTK := Lib.hid htk; clear htk hx
            go_wp2_with (first
              | (at_builtin; refine appW22 rfl (.tmp 102) (.tmp 108) rfl w.heap.size _ [] rfl (WinB.empty hb.size) _ _ x (by rw [HTK.out]; rfl) (hbs.below ((Below.refl _ _).alloc (Nat.le_refl _) _)) (by have := HTK.out; simp; omega) (by simp; exact Nat.le_succ_of_le hb.size) ?_; intro v5 w5 hw5 hk5 _; obtain ⟨A3, c3, rfl, _, _, _⟩ := WinB.readsN hw5 HTK.out
                 have hb5 : Below wr.heap.size wr w5 := ((Below.refl _ _).alloc (Nat.le_refl _) _).trans (hk5.toBelow (by simp) (fun k hk e => by injection e with e; exact absurd (show wr.heap.size = k from e) (by omega)))
                 have hB5 : Below w.heap.size w w5 := hb.trans (hb5.mono hb.size))
              | (at_builtin; have tok := hw5; refine appW43 rfl (.tmp 101) (.tmp 111) rfl w.heap.size _ acc vs rfl (Win.below (Win.below HW.out hb5) ((Below.refl _ _).alloc (Nat.le_refl _) _)) (some ⟨w5.heap.size, 0, none⟩) 1 (.slice A3 y.toNat c3) ⟨false, 0, 0, x⟩ rfl rfl (Sl.of_block (heap_alloc_new _ _) (fun j v hj => by simpa [opCells] using hj)) (by omega) (Nat.le_trans hB5.size (by simp)) ?_; intro v6 w6 hw6 hk6 _))
            go_roundw
            case rel =>
              have hb6 : Below w5.heap.size w5 (w5.alloc (.cells #[.bool false, .int .i64 0, .int .i64 0, .slice A3 y.toNat c3] 56)) := (Below.refl _ _).alloc (Nat.le_refl _) _
              have hwin6 := Win.below (Win.below HW.out hb5) hb6
              have hB6 := hB5.trans (hb6.mono hB5.size)
              refine ⟨a + 1 + y.toNat, acc ++ [⟨false, 0, 0, x⟩], by go_num, by omega, by rw [← HCS.out]; exact HP.out, by simp; omega, ?_, hB6.trans (hk6.toBelow hB6.size (fun k hk e => absurd (Win.block hwin6 k e).1 (by omega)))⟩
              exact OpsW.snoc (by decide) HV.out hwin6 (fun j d' o' hd' ho' => ((HDT.out j d' o' hd' ho').below hb5).below hb6) (Win.below hw5 hb6) hw6 hk6
            case measure => simp [intOf]; omega
        · have hz1 : (wr.alloc (.cells (cOp 0 0) 56)).heap[wr.heap.size]? = some (.cells (cOp 0 0) 56) := heap_alloc_new _ _
          have hb1 : Below wr.heap.size wr (wr.alloc (.cells (cOp 0 0) 56)) := (Below.refl _ _).alloc (Nat.le_refl _) _
          have Z1 := Lib.hid hz1; clear hz1
          have HX0 := Lib.hid hx0; have HNE := Lib.hid hne; clear hx0 hne
          obtain ⟨wo, hwo⟩ : ∃ wo, wo = wr := ⟨_, rfl⟩
          rw [← hwo] at Z1 hb1 hb HO HW HDT hca ⊢
          clear hwo
          go_wp2
          go_loopw [8, 13] (fun t8 t13 wi => ∃ (i a2 fr n2 : Nat), i ≤ 7 ∧ t13 = .int .i64 i ∧ a + 1 ≤ a2 ∧ a2 ≤ d.length ∧ t8 = .int .i64 a2 ∧ cpR y.toNat (7 - i) (d.drop a2) fr n2 = cpR y.toNat 7 (d.drop (a + 1)) 0 0 ∧ fr < 2 ^ (8 * min i 4) ∧ n2 < 2 ^ (8 * (i - 4)) ∧
            wi.heap[wo.heap.size]? = some (.cells (cOp fr n2) 56 (0, 0)) ∧ Below wo.heap.size wo wi) (fun _ t13 _ => 7 - (intOf t13).toNat)
          case atStart => exact ⟨0, a + 1, 0, 0, by omega, rfl, by omega, by omega, by go_num, rfl, by decide, by decide, Z1.out, hb1⟩
          case round =>
            clear hb1 Z1
            obtain ⟨i, a2, fr, n2, hi, rfl, ha1, ha2, rfl, hcp, hfr, hn2, hc1, hbi⟩ := hrel
            have HC1 := Lib.hid hc1; have HCP := Lib.hid hcp; have HFR := Lib.hid hfr; have HN := Lib.hid hn2
            clear hc1 hcp hfr hn2
            by_cases h7 : i < 7
            · have htst := tst_i64 y.toNat i hyl
              by_cases hbit : y.toNat / 2 ^ i % 2 = 0
              · rw [hbit] at htst
                have HBIT := Lib.hid hbit; clear hbit
                go_wp2
                go_roundw
                case rel =>
                  refine ⟨i + 1, a2, fr, n2, by omega, by go_num, ha1, ha2, rfl, ?_, ?_, ?_, HC1.out, hbi⟩
                  · rw [← HCP.out, show 7 - i = (7 - (i + 1)) + 1 by omega, cpR_no (by rw [show 6 - (7 - (i + 1)) = i by omega]; exact HBIT.out)]
                  · exact Nat.lt_of_lt_of_le HFR.out (Nat.pow_le_pow_right (by decide) (by omega))
                  · exact Nat.lt_of_lt_of_le HN.out (Nat.pow_le_pow_right (by decide) (by omega))
                case measure => simp [intOf]; omega
              · rw [show y.toNat / 2 ^ i % 2 = 1 by omega] at htst
                have HBIT := Lib.hid hbit; clear hbit
                by_cases hend : a2 = d.length
                · have hq : ((a2 : Int) == (d.length : Int)) = true := by simp [hend]
                  have h3 : cpR y.toNat 7 (d.drop (a + 1)) 0 0 = none := by
                    rw [← HCP.out, hend, show 7 - i = (6 - i) + 1 by omega, List.drop_eq_nil_of_le (Nat.le_refl _)]
                    exact cpR_end (by rw [show 6 - (6 - i) = i by omega]; exact HBIT.out)
                  have hst : stepR (d.drop a) = .error 3 := by rw [HDR.out, stepR, if_neg HX0.out, if_neg hx1, h3]
                  have hR2 : deltaR d = (0, 0, [], 3) := by rw [HR.out, ← HP.out, contR_err (parseR_bad HNE.out hst)]
                  have HR2 := Lib.hid hR2; clear hR2 hst h3 hend
                  go_wp2
                  refine bodyPost_ret (results_tmp4 rfl _ _ _) rfl ?_
                  exact ⟨.slice none 0 0, by rw [HR2.out]; rfl, by rw [HR2.out]; exact OpsW.nil _ _ _, hb.trans (hbi.mono hb.size)⟩
                · have hq : ((a2 : Int) == (d.length : Int)) = false := by simp; omega
                  have hal : a2 < d.length := by omega
                  obtain ⟨ad', e', hca⟩ := Bs.at (Sl.below (hA.below hb) hbi) hal
                  injection e' with e'
                  subst e'
                  obtain ⟨z, hz⟩ : ∃ z, z = d[a2] := ⟨_, rfl⟩
                  have hdr : d.drop a2 = z :: d.drop (a2 + 1) := by rw [hz]; exact List.drop_eq_getElem_cons hal
                  rw [← hz] at hca
                  have hzl := z.toNat_lt
                  have HDZ := Lib.hid hdr; clear hdr hz
                  have hcp2 := HCP.out
                  rw [show 7 - i = (6 - i) + 1 by omega, HDZ.out, cpR_yes (by rw [show 6 - (6 - i) = i by omega]; exact HBIT.out), show 6 - (6 - i) = i by omega] at hcp2
                  by_cases h4 : i < 4
                  · have hc1 : wr.cell? ⟨wo.heap.size, 1, none⟩ = some (.int .i64 (fr : Nat)) := by rw [cell_of_row _ _ _ _ _ _ HC1.out]; rfl
                    have hcf : wr.frozen? ⟨wo.heap.size, 1, none⟩ = false := frozen_of_row _ _ _ _ _ HC1.out
                    have hfr := HFR.out
                    rw [Nat.min_eq_left (by omega)] at hfr
                    obtain ⟨hbits, hlt2, hb63⟩ := byte_bits hfr hzl (show i ≤ 3 by omega)
                    rw [if_pos h4] at hcp2
                    have HL2 := Lib.hid hlt2; have HCP2 := Lib.hid hcp2; clear hlt2 hcp2 hfr hb63
                    go_wp2
                    have hal3 : (a2 : Int) < (d.length : Int) := by omega
                    have ew0 : IntKind.u64.wrap (i : Int) = (i : Int) := IntWalk.u64_in _ (by omega)
                    have ew1 : IntKind.u64.wrap (8 * (i : Int)) = 8 * (i : Int) := IntWalk.u64_in _ (by omega)
                    have ew2 : 0 ≤ 8 * (i : Int) := by omega
                    have ew3 : (8 * (i : Int)).toNat = 8 * i := by omega
                    go_still_tail 13, (by kernel_rfl)
                    change wpList _ _ _ _ _ wr.drew
                    have hc1' : wr.drew.cell? ⟨wo.heap.size, 1, none⟩ = some (.int .i64 (fr : Nat)) := hc1
                    have hcf' : wr.drew.frozen? ⟨wo.heap.size, 1, none⟩ = false := hcf
                    clear ew0 ew1 ew2 ew3
                    go_wp2
                    go_roundw
                    case rel =>
                      refine ⟨i + 1, a2 + 1, fr ||| z.toNat * 2 ^ (8 * i), n2, by omega, by go_num, by omega, by omega, by go_num, ?_, ?_, ?_, ?_, ?_⟩
                      · rw [show 7 - (i + 1) = 6 - i by omega]; exact HCP2.out
                      · rw [Nat.min_eq_left (by omega)]; exact HL2.out
                      · exact Nat.lt_of_lt_of_le HN.out (Nat.pow_le_pow_right (by decide) (by omega))
                      · exact heap_setCell_same wr _ 1 _ 56 _ HC1.out
                      · exact Below.drew (Below.setCell hbi (Nat.le_refl _) _)
                    case measure => simp [intOf]; omega
                  · have hc1 : wr.cell? ⟨wo.heap.size, 2, none⟩ = some (.int .i64 (n2 : Nat)) := by rw [cell_of_row _ _ _ _ _ _ HC1.out]; rfl
                    have hcf : wr.frozen? ⟨wo.heap.size, 2, none⟩ = false := frozen_of_row _ _ _ _ _ HC1.out
                    obtain ⟨hbits, hlt2, hb63⟩ := byte_bits HN.out hzl (show i - 4 ≤ 3 by omega)
                    rw [if_neg h4] at hcp2
                    have HL2 := Lib.hid hlt2; have HCP2 := Lib.hid hcp2; clear hlt2 hcp2 hb63
                    go_wp2
                    have hal3 : (a2 : Int) < (d.length : Int) := by omega
                    have ew0 : IntKind.i64.wrap ((i : Int) - 4) = ((i - 4 : Nat) : Int) := by rw [IntWalk.i64_in _ (by omega)]; omega
                    have ew4 : IntKind.u64.wrap ((i - 4 : Nat) : Int) = ((i - 4 : Nat) : Int) := IntWalk.u64_in _ (by omega)
                    have ew1 : IntKind.u64.wrap (8 * ((i - 4 : Nat) : Int)) = 8 * ((i - 4 : Nat) : Int) := IntWalk.u64_in _ (by omega)
                    have ew2 : 0 ≤ 8 * ((i - 4 : Nat) : Int) := by omega
                    have ew3 : (8 * ((i - 4 : Nat) : Int)).toNat = 8 * (i - 4) := by omega
                    go_still_tail 14, (by kernel_rfl)
                    change wpList _ _ _ _ _ wr.drew
                    have hc1' : wr.drew.cell? ⟨wo.heap.size, 2, none⟩ = some (.int .i64 (n2 : Nat)) := hc1
                    have hcf' : wr.drew.frozen? ⟨wo.heap.size, 2, none⟩ = false := hcf
                    clear ew0 ew1 ew2 ew3 ew4
                    go_wp2
                    go_roundw
                    case rel =>
                      refine ⟨i + 1, a2 + 1, fr, n2 ||| z.toNat * 2 ^ (8 * (i - 4)), by omega, by go_num, by omega, by omega, by go_num, ?_, ?_, ?_, ?_, ?_⟩
                      · rw [show 7 - (i + 1) = 6 - i by omega]; exact HCP2.out
                      · exact Nat.lt_of_lt_of_le HFR.out (Nat.pow_le_pow_right (by decide) (by omega))
                      · rw [show i + 1 - 4 = i - 4 + 1 by omega]; exact HL2.out
                      · exact heap_setCell_same wr _ 2 _ 56 _ HC1.out
                      · exact Below.drew (Below.setCell hbi (Nat.le_refl _) _)
                    case measure => simp [intOf]; omega
            · obtain rfl : i = 7 := by omega
              have hcp3 := HCP.out
              rw [Nat.sub_self, cpR] at hcp3
              have hc1 : wr.cell? ⟨wo.heap.size, 2, none⟩ = some (.int .i64 (n2 : Nat)) := by rw [cell_of_row _ _ _ _ _ _ HC1.out]; rfl
              have hcf : wr.frozen? ⟨wo.heap.size, 2, none⟩ = false := frozen_of_row _ _ _ _ _ HC1.out
              have HCP3 := Lib.hid hcp3; clear hcp3
              have fin : ∀ (p : DOp) (v4 v6 : Value) (w5 w6 : World), stepR (d.drop a) = .ok (p, d.drop a2) → Below wo.heap.size wo w5 → Win (w5.alloc (.cells (opCells (.slice none 0 0) p).toArray 56)) w.heap.size 56 4 v4 acc.length (flatOps vs acc) → Win w6 w.heap.size 56 4 v6 (acc.length + 1) (flatOps vs acc ++ opCells (.slice none 0 0) p) → Kp (fun k => v4.ownBlock = some k) (w5.alloc (.cells (opCells (.slice none 0 0) p).toArray 56)) w6 → p.data = [] →
                  (∃ acc', a2 ≤ d.length ∧ contR acc' (parseR (d.drop a2)) = parseR (d.drop n) ∧ acc'.length ≤ a2 ∧ OpsW w6 w.heap.size 56 v6 acc' ∧ Below w.heap.size w w6) := by
                intro p v4 v6 w5 w6 hst hb5 hwin6 hw6 hk6 hp
                have hb6 := hb5.alloc hb5.size (.cells (opCells (.slice none 0 0) p).toArray 56)
                have hB6 := hb.trans (hb6.mono hb.size)
                have hcs := contR_step (acc := acc) hst
                refine ⟨acc ++ [p], by omega, by rw [← hcs]; exact HP.out, by simp; omega, ?_, hB6.trans (hk6.toBelow hB6.size (fun k hk e => absurd (Win.block hwin6 k e).1 (by omega)))⟩
                exact OpsW.snoc (by decide) HV.out hwin6 (fun j d' o' hd' ho' => (HDT.out j d' o' hd' ho').below hb6) (by rw [hp]; exact Win.nil _ _ _ _) hw6 hk6
              by_cases hn0 : n2 = 0
              · have hq : ((n2 : Int) == 0) = true := by simp [hn0]
                have HN0 := Lib.hid hn0; clear hn0
                have hc3 : (wr.setCell ⟨wo.heap.size, 2, none⟩ (.int .i64 65536)).heap[wo.heap.size]? = some (.cells (cOp fr 65536) 56 (0, 0)) := heap_setCell_same wr _ 2 _ 56 _ HC1.out
                have H3 := Lib.hid hc3; clear hc3
                have hb5 : Below wo.heap.size wo (wr.setCell ⟨wo.heap.size, 2, none⟩ (.int .i64 65536)) := Below.setCell hbi (Nat.le_refl _) _
                have hb6 := hb5.alloc hb5.size (.cells (opCells (.slice none 0 0) ⟨true, fr, 65536, []⟩).toArray 56)
                have h5 : ((wr.setCell ⟨wo.heap.size, 2, none⟩ (.int .i64 65536)).alloc (.cells (opCells (.slice none 0 0) ⟨true, fr, 65536, []⟩).toArray 56)).heap[wr.heap.size]? = some (.cells (opCells (.slice none 0 0) ⟨true, fr, 65536, []⟩).toArray 56) := by
                  have h := heap_alloc_new (wr.setCell ⟨wo.heap.size, 2, none⟩ (.int .i64 65536)) (.cells (opCells (.slice none 0 0) ⟨true, fr, 65536, []⟩).toArray 56)
                  rwa [show (wr.setCell ⟨wo.heap.size, 2, none⟩ (.int .i64 65536)).heap.size = wr.heap.size by simp] at h
                have H5 := Lib.hid h5; clear h5
                have hst : stepR (d.drop a) = .ok (⟨true, fr, 65536, []⟩, d.drop a2) := by rw [HDR.out, stepR, if_neg HX0.out, if_neg hx1, ← HCP3.out]; simp [HN0.out]
                have HST := Lib.hid hst; have FIN := Lib.hid fin; clear hst fin
                go_wp2_with (first
                  | (refine wpList_load_row rfl 56 (.tmp 12) rfl wo.heap.size rfl 56 (cOp fr 65536) (0, 0) _ H3.out Try.underlying56 rfl (by kernel_rfl) ?_)
                  | (at_builtin; refine appW43 rfl (.tmp 85) (.tmp 87) rfl w.heap.size _ acc vs rfl (Win.below HW.out hb6) (some ⟨wr.heap.size, 0, none⟩) 1 (.slice none 0 0) ⟨true, fr, 65536, []⟩ rfl rfl (Sl.of_block (H5.out) (fun j v hj => by simpa [opCells] using hj)) (by omega) (Nat.le_trans hb.size hb6.size) ?_; intro v6 w6 hw6 hk6 _))
                go_roundw
                case rel =>
                  obtain ⟨acc', f1, f2, f3, f4, f5⟩ := FIN.out _ _ _ _ _ HST.out hb5 (Win.below HW.out hb6) hw6 hk6 rfl
                  exact ⟨a2, acc', rfl, f1, f2, f3, f4, f5⟩
                case measure => simp [intOf]; omega
              · have hq : ((n2 : Int) == 0) = false := by simp [hn0]
                have HN0 := Lib.hid hn0; clear hn0
                have hb6 := hbi.alloc hbi.size (.cells (opCells (.slice none 0 0) ⟨true, fr, n2, []⟩).toArray 56)
                have hst : stepR (d.drop a) = .ok (⟨true, fr, n2, []⟩, d.drop a2) := by rw [HDR.out, stepR, if_neg HX0.out, if_neg hx1, ← HCP3.out]; simp [HN0.out]
                have HST := Lib.hid hst; have FIN := Lib.hid fin; clear hst fin
                go_wp2_with (first
                  | (refine wpList_load_row rfl 56 (.tmp 12) rfl wo.heap.size rfl 56 (cOp fr n2) (0, 0) _ HC1.out Try.underlying56 rfl (by kernel_rfl) ?_)
                  | (at_builtin; refine appW43 rfl (.tmp 85) (.tmp 87) rfl w.heap.size _ acc vs rfl (Win.below HW.out hb6) (some ⟨wr.heap.size, 0, none⟩) 1 (.slice none 0 0) ⟨true, fr, n2, []⟩ rfl rfl (Sl.of_block (heap_alloc_new _ _) (fun j v hj => by simpa [opCells] using hj)) (by omega) (Nat.le_trans hb.size hb6.size) ?_; intro v6 w6 hw6 hk6 _))
                go_roundw
                case rel =>
                  obtain ⟨acc', f1, f2, f3, f4, f5⟩ := FIN.out _ _ _ _ _ HST.out hbi (Win.below HW.out hb6) hw6 hk6 rfl
                  exact ⟨a2, acc', rfl, f1, f2, f3, f4, f5⟩
                case measure => simp [intOf]; omega
      · have hr1 : d.drop a = [] := List.drop_eq_nil_of_le (by omega)
        have hpe : parseR (d.drop n) = .ok acc := by rw [← HP.out, hr1, parseR_nil]; simp [contR]
        have hR2 : deltaR d = (b, o, acc, 0) := by rw [HR.out, hpe]
        have HR2 := Lib.hid hR2; clear hR2 hpe hr1
        go_wp2
        refine bodyPost_ret (results_tmp4 rfl _ _ _) rfl ?_
        exact ⟨_, by rw [HR2.out]; rfl, by rw [HR2.out]; exact HO.out, hb⟩
  · have hR : deltaR d = (0, 0, [], (sizesR d).2.2.2) := by unfold deltaR; rw [if_neg he]
    have hs0 : (sizesR d).1 = 0 ∧ (sizesR d).2.1 = 0 ∧ (sizesR d).2.2.1 = 0 := by
      unfold sizesR at *
      split
      · split
        · rename_i h1 h2; rw [if_pos h1, if_pos h2] at he; exact absurd rfl he
        · exact ⟨rfl, rfl, rfl⟩
      · exact ⟨rfl, rfl, rfl⟩
    rw [hs0.1, hs0.2.1, hs0.2.2] at k1
    obtain ⟨f, hfe⟩ : ∃ f, f = (sizesR d).2.2.2 := ⟨_, rfl⟩
    rw [← hfe] at k1 hR he
    have hf0 : ((f : Int) != 0) = true := by simp [he]
    have HR := Lib.hid hR; clear hR hs0 he hfe
    go_enter Try.func36, Try.ntmps36
    go_wp2_with (go_at_call 35; (with_reducible refine k1.mono ?_); rintro e w' ⟨rfl, rfl⟩)
    refine bodyPost_ret (results_tmp4 rfl _ _ _) rfl ?_
    exact ⟨.slice none 0 0, by rw [HR.out]; rfl, by rw [HR.out]; exact OpsW.nil _ _ _, Below.refl _ _⟩
end Go.Proofs.Ytpfjkappgdpfbaa
