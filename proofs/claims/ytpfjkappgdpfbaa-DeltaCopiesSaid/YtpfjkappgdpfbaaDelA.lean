/- delta.Apply computes DelP's applyD. Condition: lists of bytes have at most 2^40 of them, the bound is at most 2^40. -/
import Derived.Test.YtpfjkappgdpfbaaDelR
import Derived.Deep.Cut
namespace Go.Proofs.Ytpfjkappgdpfbaa
open Go.RowKit
set_option maxRecDepth 100000
set_option maxHeartbeats 4000000
/-- a list of bytes and a number are handed back -/
def Out2 (r : List UInt8 × Nat) (w : World) (e : Ending) (w' : World) : Prop := ∃ v, e = .returned (.tuple #[v, .int .i64 (r.2 : Nat)]) ∧ WinB w' w.heap.size 5 v r.1 ∧ Below w.heap.size w w'
theorem opCells_at (d : Value) (o : DOp) : (opCells d o).toArray = #[.bool o.cp, .int .i64 o.fr, .int .i64 o.n, d] := rfl
theorem apply_any (A : Option Addr) (c : Nat) (base : List UInt8) (A1 : Option Addr) (c1 : Nat) (d : List UInt8) (most : Int) (w : World) (hl : base.length ≤ 1099511627776) (hc : base.length ≤ c) (hA : Bs w A base)
    (hl1 : d.length ≤ 1099511627776) (hc1 : d.length ≤ c1) (hA1 : Bs w A1 d) (hm : most ≤ 1099511627776) :
    Calls Try.prog 33 #[.slice A base.length c, .slice A1 d.length c1, .int .i64 most] w (Out2 (applyD base d most) w) := by
  have k1 := parse_any A1 c1 d w hl1 hc1 hA1
  have hbd := deltaR_bd d
  rcases hd : deltaR d with ⟨n, size, ops, err⟩
  have hR : applyD base d most = if err = 0 then (if n = base.length then (if most < size then ([], 5) else applyR base size ops []) else ([], 2)) else ([], err) := by unfold applyD; rw [hd]
  unfold ParseOut at k1
  rw [hd] at k1 hbd
  simp only at k1 hbd
  have HR := Lib.hid hR; have HD := Lib.hid hd; clear hR hd
  by_cases he : err = 0
  · subst he
    by_cases hn : n = base.length
    · by_cases hs : most < size
      · have hq1 : ((n : Int) != (base.length : Int)) = false := by simp [hn]
        have hR2 : applyD base d most = ([], 5) := by rw [HR.out, if_pos rfl, if_pos hn, if_pos hs]
        have HR2 := Lib.hid hR2; clear hR2 HR hn
        go_enter Try.func33, Try.ntmps33
        go_wp2_with (go_at_call 29; (with_reducible refine k1.mono ?_); rintro e w1 ⟨v1, rfl, hv1, hb1⟩; obtain ⟨A2, c2, rfl, hc2, hm2, hops⟩ := OpsW.reads hv1)
        go_ret2
        exact ⟨.slice none 0 0, by rw [HR2.out]; rfl, by rw [HR2.out]; exact Win.nil _ _ _ _, hb1⟩
      · have hq1 : ((n : Int) != (base.length : Int)) = false := by simp [hn]
        have hR2 : applyD base d most = applyR base size ops [] := by rw [HR.out, if_pos rfl, if_pos hn, if_neg hs]
        have HR2 := Lib.hid hR2; clear hR2 HR
        have HN := Lib.hid hn; clear hn
        have hsz : size ≤ 1099511627776 := by omega
        go_enter Try.func33, Try.ntmps33
        go_wp2_with (go_at_call 29; (with_reducible refine k1.mono ?_); rintro e w1 ⟨v1, rfl, hv1, hb1⟩; obtain ⟨A2, c2, rfl, hc2, hm2, hops⟩ := OpsW.reads hv1)
        have hm3 : ops.length ≤ 9223372036854775807 := by unfold maxLen at hm2; omega
        go_loopw [12, 38] (fun t12 t38 wr => ∃ (k : Nat) (out : List UInt8), k ≤ ops.length ∧ t38 = .int .i64 k ∧ applyR base size (ops.drop k) out = applyR base size ops [] ∧ out.length ≤ size ∧ WinB wr w1.heap.size 5 t12 out ∧ Below w1.heap.size w1 wr) (fun _ t38 _ => ops.length - (intOf t38).toNat)
        case atStart => exact ⟨0, [], by omega, rfl, rfl, by simp, Win.nil _ _ _ _, Below.refl _ _⟩
        case round =>
          obtain ⟨k, out, hk, rfl, hap, hol, how, hbr⟩ := hrel
          have hB := hb1.trans (hbr.mono hb1.size)
          have HAP := Lib.hid hap; clear hap
          by_cases hlt : k < ops.length
          · obtain ⟨ad, Ad, cd, rfl, hcells, hcd, hmd, hdata⟩ := (hops.below hbr) k ops[k] (by simp [hlt])
            have hop := hbd ops[k] (List.getElem_mem hlt)
            have hdr : ops.drop k = ops[k] :: ops.drop (k + 1) := List.drop_eq_getElem_cons hlt
            obtain ⟨o, ho⟩ : ∃ o, o = ops[k] := ⟨_, rfl⟩
            rw [← ho] at hcells hcd hdata hop hdr
            have HO := Lib.hid ho; have HDR := Lib.hid hdr; clear ho hdr
            have hcl := Lib.hid hcells; clear hcells
            have HOW := Lib.hid how; clear how
            obtain ⟨Ao, co, rfl, _, _, _⟩ := WinB.reads HOW.out
            cases hcp : o.cp with
            | true =>
              obtain ⟨hf0, hf1, hn0, hn1⟩ := hop hcp
              by_cases hin1 : (base.length : Int) < o.fr
              · have hq2 : decide ((base.length : Int) < o.fr) = true := decide_eq_true hin1
                have hOp : ¬ opIn base o := fun h => (h hcp).1 hin1
                have HOP := Lib.hid hOp; clear hOp hop
                go_upto_region 14 with (refine wpList_load_agg rfl 37 (.tmp 40) rfl (ad.add (k * 4)) rfl (opCells (.slice Ad o.data.length cd) o) _ hcl.out Try.underlying37 rfl (by kernel_rfl) ?_; rw [opCells_at, hcp])
                clear hcl
                go_wp2
                go_ret2
                have hAr : applyR base size ops [] = ([], 2) := by rw [← HAP.out, HDR.out, applyR, if_neg HOP.out]
                exact ⟨.slice none 0 0, by rw [HR2.out, hAr]; rfl, by rw [HR2.out, hAr]; exact Win.nil _ _ _ _, hB.alloc hB.size _⟩
              · by_cases hin2 : (base.length : Int) - o.fr < o.n
                · have hq2 : decide ((base.length : Int) < o.fr) = false := decide_eq_false hin1
                  have hq3 : decide ((base.length : Int) - o.fr < o.n) = true := decide_eq_true hin2
                  have hOp : ¬ opIn base o := fun h => (h hcp).2 hin2
                  have HOP := Lib.hid hOp; clear hOp hop
                  go_upto_region 14 with (refine wpList_load_agg rfl 37 (.tmp 40) rfl (ad.add (k * 4)) rfl (opCells (.slice Ad o.data.length cd) o) _ hcl.out Try.underlying37 rfl (by kernel_rfl) ?_; rw [opCells_at, hcp])
                  clear hcl
                  go_wp2
                  go_ret2
                  have hAr : applyR base size ops [] = ([], 2) := by rw [← HAP.out, HDR.out, applyR, if_neg HOP.out]
                  exact ⟨.slice none 0 0, by rw [HR2.out, hAr]; rfl, by rw [HR2.out, hAr]; exact Win.nil _ _ _ _, hB.alloc hB.size _⟩
                · have hOp : opIn base o ∧ opB base o = (base.drop o.fr.toNat).take o.n.toNat := ⟨fun _ => ⟨hin1, hin2⟩, by rw [opB, if_pos hcp]⟩
                  have hlen : ((base.drop o.fr.toNat).take o.n.toNat).length = o.n.toNat := by simp; omega
                  have hOp2 : opIn base o ∧ (opB base o).length = o.n.toNat := ⟨hOp.1, by rw [hOp.2, hlen]⟩
                  have hsl := slice_lh Try.underlying22 Try.one22 A base.length c o.fr (o.fr + o.n) o.n.toNat o.fr.toNat (by omega) (by omega) (by omega) (by omega) (by omega)
                  have hbB : Bs wr (cutA A c o.fr.toNat 1) ((base.drop o.fr.toNat).take o.n.toNat) := Bs.take (Bs.cut (hA.below hB) o.fr.toNat c hc) _
                  obtain ⟨x, hx⟩ : ∃ x, x = (base.drop o.fr.toNat).take o.n.toNat := ⟨_, rfl⟩
                  obtain ⟨m, hmm⟩ : ∃ m : Nat, m = o.n.toNat := ⟨_, rfl⟩
                  rw [← hx] at hOp hlen hbB
                  rw [← hmm] at hlen hsl
                  have hxm : opB base o = x := hOp.2
                  have hOpI := hOp.1
                  have hq2 : decide ((base.length : Int) < o.fr) = false := decide_eq_false hin1
                  have hq3 : decide ((base.length : Int) - o.fr < o.n) = false := decide_eq_false hin2
                  have hmn : o.n = (m : Int) := by omega
                  have HOP := Lib.hid (And.intro hOpI hxm); have HLEN := Lib.hid hlen; have HBB := Lib.hid hbB; have HMN := Lib.hid hmn
                  clear hOp hop hOp2 hlen hbB hOpI hxm hx hmm hmn
                  by_cases hfit : size - out.length < m
                  · go_upto_region 14 with (refine wpList_load_agg rfl 37 (.tmp 40) rfl (ad.add (k * 4)) rfl (opCells (.slice Ad o.data.length cd) o) _ hcl.out Try.underlying37 rfl (by kernel_rfl) ?_; rw [opCells_at, hcp])
                    clear hcl
                    go_wp2
                    go_ret2
                    have hAr : applyR base size ops [] = ([], 2) := by rw [← HAP.out, HDR.out, applyR, if_pos (HOP.out.1), if_pos (by rw [HOP.out.2, HLEN.out]; exact hfit)]
                    exact ⟨.slice none 0 0, by rw [HR2.out, hAr]; rfl, by rw [HR2.out, hAr]; exact Win.nil _ _ _ _, hB.alloc hB.size _⟩
                  · go_upto_region 14 with (refine wpList_load_agg rfl 37 (.tmp 40) rfl (ad.add (k * 4)) rfl (opCells (.slice Ad o.data.length cd) o) _ hcl.out Try.underlying37 rfl (by kernel_rfl) ?_; rw [opCells_at, hcp])
                    clear hcl
                    go_wp2_with (at_builtin; refine appW22 rfl (.tmp 77) (.tmp 78) rfl w1.heap.size _ out rfl (Win.below HOW.out ((Below.refl _ _).alloc (Nat.le_refl _) _)) _ _ (x) (by rw [HLEN.out]; rfl) ((HBB.out).below ((Below.refl _ _).alloc (Nat.le_refl _) _)) (by have := HLEN.out; omega) (Nat.le_trans hbr.size (by simp)) ?_; intro v5 w5 hw5 hk5 _)
                    have hb5 : Below w1.heap.size w1 w5 := (hbr.alloc hbr.size _).trans (hk5.toBelow (Nat.le_trans hbr.size (by simp)) (fun g hg e => absurd (Win.block HOW.out g e).1 (by omega)))
                    go_roundw
                    case rel => exact ⟨k + 1, out ++ x, by omega, by go_num, by rw [← HAP.out, HDR.out, applyR, if_pos (HOP.out.1), if_neg (by rw [HOP.out.2, HLEN.out]; exact hfit), HOP.out.2], by rw [List.length_append]; have := HLEN.out; omega, hw5, hb5⟩
                    case measure => simp [intOf]; omega
            | false =>
              have hOp : opIn base o ∧ opB base o = o.data := ⟨(fun h => by rw [hcp] at h; cases h), by rw [opB, hcp]; rfl⟩
              have HOP := Lib.hid hOp; clear hOp hop
              by_cases hfit : size - out.length < o.data.length
              · go_wp2_with (first
                  | (refine wpList_load_agg rfl 37 (.tmp 40) rfl (ad.add (k * 4)) rfl (opCells (.slice Ad o.data.length cd) o) _ hcl.out Try.underlying37 rfl (by kernel_rfl) ?_; rw [opCells_at, hcp]))
                go_ret2
                have hAr : applyR base size ops [] = ([], 2) := by rw [← HAP.out, HDR.out, applyR, if_pos (HOP.out.1), if_pos (by rw [HOP.out.2]; exact hfit)]
                exact ⟨.slice none 0 0, by rw [HR2.out, hAr]; rfl, by rw [HR2.out, hAr]; exact Win.nil _ _ _ _, hB.alloc hB.size _⟩
              · go_wp2_with (first
                  | (refine wpList_load_agg rfl 37 (.tmp 40) rfl (ad.add (k * 4)) rfl (opCells (.slice Ad o.data.length cd) o) _ hcl.out Try.underlying37 rfl (by kernel_rfl) ?_; rw [opCells_at, hcp])
                  | (at_builtin; refine appW22 rfl (.tmp 77) (.tmp 78) rfl w1.heap.size _ out rfl (Win.below HOW.out ((Below.refl _ _).alloc (Nat.le_refl _) _)) _ _ (o.data) rfl ((hdata).below ((Below.refl _ _).alloc (Nat.le_refl _) _)) (by omega) (Nat.le_trans hbr.size (by simp)) ?_; intro v5 w5 hw5 hk5 _))
                have hb5 : Below w1.heap.size w1 w5 := (hbr.alloc hbr.size _).trans (hk5.toBelow (Nat.le_trans hbr.size (by simp)) (fun g hg e => absurd (Win.block HOW.out g e).1 (by omega)))
                go_roundw
                case rel => exact ⟨k + 1, out ++ o.data, by omega, by go_num, by rw [← HAP.out, HDR.out, applyR, if_pos (HOP.out.1), if_neg (by rw [HOP.out.2]; exact hfit), HOP.out.2], by rw [List.length_append]; omega, hw5, hb5⟩
                case measure => simp [intOf]; omega
          · obtain rfl : k = ops.length := by omega
            have HOW := Lib.hid how; clear how
            obtain ⟨Ao, co, rfl, hco, _, _⟩ := WinB.reads HOW.out
            have hAr := HAP.out
            rw [List.drop_length, applyR] at hAr
            by_cases hfin : out.length = size
            · have hq2 : ((out.length : Int) != (size : Int)) = false := by simp [hfin]
              rw [if_pos hfin] at hAr
              have HAR := Lib.hid hAr; clear hAr hfin
              have kc := clip22 Ao out.length co hco wr
              go_wp2_with (go_at_call 58; (with_reducible refine kc.mono ?_); rintro e w' ⟨rfl, rfl⟩)
              go_ret2
              exact ⟨.slice Ao out.length out.length, by rw [HR2.out, ← HAR.out]; rfl, by rw [HR2.out, ← HAR.out]; exact WinB.clip (Win.base HOW.out hb1.size) rfl, hB⟩
            · have hq2 : ((out.length : Int) != (size : Int)) = true := by simp; omega
              rw [if_neg hfin] at hAr
              have HAR := Lib.hid hAr; clear hAr hfin
              go_wp2
              go_ret2
              exact ⟨.slice none 0 0, by rw [HR2.out, ← HAR.out]; rfl, by rw [HR2.out, ← HAR.out]; exact Win.nil _ _ _ _, hB⟩
    · have hq1 : ((n : Int) != (base.length : Int)) = true := by simp; omega
      have hR2 : applyD base d most = ([], 2) := by rw [HR.out, if_pos rfl, if_neg hn]
      have HR2 := Lib.hid hR2; clear hR2 HR hn
      go_enter Try.func33, Try.ntmps33
      go_wp2_with (go_at_call 29; (with_reducible refine k1.mono ?_); rintro e w1 ⟨v1, rfl, hv1, hb1⟩; obtain ⟨A2, c2, rfl, hc2, hm2, hops⟩ := OpsW.reads hv1)
      go_ret2
      exact ⟨.slice none 0 0, by rw [HR2.out]; rfl, by rw [HR2.out]; exact Win.nil _ _ _ _, hb1⟩
  · have hq1 : ((err : Int) != 0) = true := by simp [he]
    have hR2 : applyD base d most = ([], err) := by rw [HR.out, if_neg he]
    have HR2 := Lib.hid hR2; clear hR2 HR he
    go_enter Try.func33, Try.ntmps33
    go_wp2_with (go_at_call 29; (with_reducible refine k1.mono ?_); rintro e w1 ⟨v1, rfl, hv1, hb1⟩; obtain ⟨A2, c2, rfl, hc2, hm2, hops⟩ := OpsW.reads hv1)
    go_ret2
    exact ⟨.slice none 0 0, by rw [HR2.out]; rfl, by rw [HR2.out]; exact Win.nil _ _ _ _, hb1⟩
end Go.Proofs.Ytpfjkappgdpfbaa
