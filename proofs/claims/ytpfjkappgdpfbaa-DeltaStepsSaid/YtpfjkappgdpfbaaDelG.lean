/- The reference's Print computes DelP's printR. Condition: at most 2^30 steps. -/
import Derived.Test.YtpfjkappgdpfbaaDelN
import Derived.StillTailTactics
import Derived.Deep.RegionLaw
import Derived.Deep.CutBlock
namespace Go.Proofs.Ytpfjkappgdpfbaa
open Go.RowKit
set_option maxRecDepth 100000
set_option maxHeartbeats 4000000
theorem step_appW22 {ops : Array Oper} {o : Oper} {a : Act} {w : World} {K : Act → World → Prop} {Q : Exit → Act → World → Prop} {E : Prop} (hg : o.guard = none) (s x : Operand)
    (ho : o.op = .call { callee := .builtin .append, args := #[s, x], argTypes := #[22, 22] })
    (B : Nat) (v : Value) (l : List UInt8) (hs : a.eval s = v) (hown : WinB w B 5 v l) (A : Option Addr) (c : Nat) (m : List UInt8) (hx : a.eval x = .slice A m.length c) (hA : Bs w A m)
    (hb : l.length + m.length ≤ 140737488351232) (hB : B ≤ w.heap.size)
    (hK : ∀ v' w', WinB w' B 5 v' (l ++ m) → Kp (fun k => v.ownBlock = some k) w w' → (v'.ownBlock = v.ownBlock ∨ v'.ownBlock = some w.heap.size) → K (a.put o.dst v') w') :
    if Region.wanted o (yielded ops a.tmps) = true then Oper.wp Try.prog o a w K Q else E := by
  have hw : Region.wanted o (yielded ops a.tmps) = true := by simp [Region.wanted, hg]
  rw [if_pos hw]
  obtain ⟨v', w', hrun, h1, h2, h3⟩ := run_appW (P := Try.prog) B 22 22 o.type 5 (.int .u8 0) 1 1 Try.underlying22 Try.info5 rfl (by decide) v l.length (bvs l) hown (.slice A m.length c) m.length (bvs m) (srcOf Try.underlying22 (by decide) (by simp) hA (bvs_one m)) (by omega) (by unfold maxLen; omega) hB
  unfold Oper.wp
  simp [execOp, ho, resolve, invoke, builtin, hs, hx, hrun, Result.andThen]
  exact hK v' w' (by rw [WinB, List.length_append, bvs_append]; exact h1) h2 h3
theorem encC_big (fr j : Nat) (hj : j ≤ 3) : encC fr 0 7 = encC fr 0 (4 + j) ∧ encT fr 0 7 = encT fr 0 (4 + j) := by
  have h : ∀ i, 4 ≤ i → encB fr 0 i = 0 := fun i hi => by unfold encB; rw [if_neg (by omega)]; simp
  match j, hj with
  | 3, _ => exact ⟨rfl, rfl⟩
  | 2, _ => exact ⟨by rw [encC, if_pos (h 6 (by omega))], by rw [encT, if_pos (h 6 (by omega))]⟩
  | 1, _ => exact ⟨by rw [encC, if_pos (h 6 (by omega)), encC, if_pos (h 5 (by omega))], by rw [encT, if_pos (h 6 (by omega)), encT, if_pos (h 5 (by omega))]⟩
  | 0, _ => exact ⟨by rw [encC, if_pos (h 6 (by omega)), encC, if_pos (h 5 (by omega)), encC, if_pos (h 4 (by omega))], by rw [encT, if_pos (h 6 (by omega)), encT, if_pos (h 5 (by omega)), encT, if_pos (h 4 (by omega))]⟩
theorem printRef_any (base out : Int) (A : Option Addr) (c : Nat) (l : List DOp) (w : World) (hb : base < 9223372036854775808) (ho : out < 9223372036854775808) (hl : l.length ≤ 1073741824) (hA : OpsR w A l) :
    Calls Try.prog 27 #[.int .i64 base, .int .i64 out, .slice A l.length c] w (Out2 (printR base out l) w) := by
  by_cases h1 : base < 0
  · have q1 : decide (base < 0) = true := decide_eq_true h1
    have hR : printR base out l = ([], 1) := if_pos (.inl h1)
    have HR := Lib.hid hR; clear hR
    go_enter Try.func27, Try.ntmps27
    go_wp2
    go_ret2
    exact ⟨.slice none 0 0, by rw [HR.out]; rfl, by rw [HR.out]; exact Win.nil _ _ _ _, Below.refl _ _⟩
  have q1 : decide (base < 0) = false := decide_eq_false h1
  by_cases h2 : out < 0
  · have q2 : decide (out < 0) = true := decide_eq_true h2
    have hR : printR base out l = ([], 1) := if_pos (.inr (.inl h2))
    have HR := Lib.hid hR; clear hR
    go_enter Try.func27, Try.ntmps27
    go_wp2
    go_ret2
    exact ⟨.slice none 0 0, by rw [HR.out]; rfl, by rw [HR.out]; exact Win.nil _ _ _ _, Below.refl _ _⟩
  have q2 : decide (out < 0) = false := decide_eq_false h2
  have hbad : (¬ ∀ o ∈ l, okOp o) → printR base out l = ([], 1) := fun h => if_pos (.inr (.inr h))
  have hgood : (∀ o ∈ l, okOp o) → printR base out l = (putSize base.toNat ++ putSize out.toNat ++ encs l, 0) := fun h3 => if_neg (fun h => h.elim h1 (fun h => h.elim h2 (fun h => h h3)))
  obtain ⟨bn, rfl⟩ : ∃ bn : Nat, base = bn := ⟨base.toNat, by omega⟩
  obtain ⟨on, rfl⟩ : ∃ on : Nat, out = on := ⟨out.toNat, by omega⟩
  have hp1 := putSize_len bn 9 (by omega) (by decide)
  have hp2 := putSize_len on 9 (by omega) (by decide)
  have k2 := putSizeR_any w.heap.size (.slice none 0 0) [] bn (by omega) w w (by simp) (Win.nil _ _ _ _) (Below.refl _ _) (Nat.le_refl _)
  have BAD := Lib.hid hbad; have GOOD := Lib.hid hgood; clear hbad hgood
  go_enter Try.func27, Try.ntmps27
  go_wp2_with (first
    | (go_at_call 46
       (with_reducible refine k2.mono ?_); rintro e w2 ⟨v2, rfl, hw2, hb2, hs2⟩
       obtain ⟨A2, c2, rfl, _, _, hA2⟩ := WinB.readsN (n := (putSize bn).length) hw2 rfl
       have k3 := putSizeR_any w.heap.size _ (putSize bn) on (by omega) w w2 (by omega) hw2 hb2 hs2)
    | (go_at_call 46
       (with_reducible refine k3.mono ?_); rintro e w3 ⟨v3, rfl, hw3, hB3, hs3⟩
       obtain ⟨A3, c3, rfl, _, _, _⟩ := WinB.readsN (n := (putSize bn).length + (putSize on).length) hw3 (by simp)))
  have hpl : (putSize bn ++ putSize on).length ≤ 18 := by rw [List.length_append]; omega
  obtain ⟨pre, hpre⟩ : ∃ pre, pre = putSize bn ++ putSize on := ⟨_, rfl⟩
  have hw3' : WinB w3 w.heap.size 5 (Value.slice A3 ((putSize bn).length + (putSize on).length) c3) pre := by rw [hpre]; exact hw3
  rw [← hpre] at hpl
  have hR3 : (∀ o ∈ l, okOp o) → printR bn on l = (pre ++ encs l, 0) := fun h => by rw [GOOD.out h, hpre]; rfl
  have HR3 := Lib.hid hR3; have HW3 := Lib.hid hw3'
  clear hR3 hw3' hw3 hw2 hpre k2 k3 hb2 hp1 hp2
  go_loopw [8, 9] (fun t8 t9 wr => ∃ k : Nat, t9 = .int .i64 k ∧ k ≤ l.length ∧ (∀ o ∈ l.take k, okOp o) ∧ WinB wr w.heap.size 5 t8 (pre ++ encs (l.take k)) ∧ Below w.heap.size w wr) (fun _ t9 _ => l.length - (intOf t9).toNat)
  case atStart => exact ⟨0, rfl, by omega, by simp, by simpa [encs] using HW3.out, hB3⟩
  case round =>
    obtain ⟨k, rfl, hk, hoks, hwv, hb⟩ := hrel
    have hel := encs_len (l.take k) hoks
    have hel2 : (l.take k).length = k := by simp; omega
    rw [hel2] at hel
    have hxl : (pre ++ encs (l.take k)).length ≤ 1000000000000 := by rw [List.length_append]; omega
    have HXL := Lib.hid hxl; have HWV := Lib.hid hwv; have HOKS := Lib.hid hoks
    obtain ⟨A4, c4, rfl, _, _, _⟩ := WinB.readsN (n := pre.length + (encs (l.take k)).length) hwv (by simp)
    clear hxl hwv hel hel2 hoks
    by_cases hlt : k < l.length
    · obtain ⟨ad, Ad, cd, rfl, hcells, hcd, hmd, hdata⟩ := hA k l[k] (by simp [hlt])
      have htk : encs (l.take (k + 1)) = encs (l.take k) ++ enc l[k] := by unfold encs; rw [List.take_succ_eq_append_getElem hlt, List.flatMap_append]; simp
      have hmem : l[k] ∈ l := List.getElem_mem hlt
      have hoks2 : okOp l[k] → ∀ o ∈ l.take (k + 1), okOp o := fun h o hm => by
        rw [List.take_succ_eq_append_getElem hlt, List.mem_append] at hm
        rcases hm with hm | hm
        · exact HOKS.out o hm
        · simp at hm; rw [hm]; exact h
      obtain ⟨o, ho⟩ : ∃ o, o = l[k] := ⟨_, rfl⟩
      rw [← ho] at hcells hcd hdata htk hmem hoks2
      have hcl := Lib.hid (hcells.below hb); have HDA := Lib.hid hdata; have HTK := Lib.hid htk; have HOK2 := Lib.hid hoks2; have HM := Lib.hid hmem
      clear hcells hdata htk ho hoks2 hmem
      have hbw : ∀ u, Below wr.heap.size wr (wr.alloc u) := fun u => (Below.refl _ _).alloc (Nat.le_refl _) u
      by_cases hok : okOp o
      · cases hcp : o.cp with
        | true =>
          obtain ⟨t1, t2, t3, t4, t5⟩ := (okOp_cp hcp).1 hok
          obtain ⟨frn, hfrn⟩ : ∃ frn : Nat, o.fr = frn := ⟨o.fr.toNat, by omega⟩
          obtain ⟨nn, hnn⟩ : ∃ nn : Nat, o.n = nn := ⟨o.n.toNat, by omega⟩
          have kr := right_any o Ad cd (wr.alloc (.cells #[.bool true, .int .i64 frn, .int .i64 nn, .slice Ad o.data.length cd] 56))
          rw [decide_eq_true hok] at kr
          unfold opV at kr
          rw [hcp, hfrn, hnn] at kr
          have KR := Lib.hid kr; clear kr
          have hx2 : enc o = encCopy frn nn := by rw [enc, if_pos hcp, hfrn, hnn]; rfl
          have HX2 := Lib.hid hx2; clear hx2
          have hfl : frn ≤ 4294967295 := by omega
          have hn1 : 1 ≤ nn := by omega
          have hn2 : nn ≤ 65536 := by omega
          clear t1 t2 t3 t4 t5
          go_upto_block 2 with (first
            | (refine wpList_load_agg rfl 56 (.tmp 35) rfl (ad.add (k * 4)) rfl (opCells (.slice Ad o.data.length cd) o) _ hcl.out Try.underlying56 rfl (by kernel_rfl) ?_; rw [opCells_at, hcp, hfrn, hnn])
            | (refine wpList_load_row rfl 56 (.tmp 10) rfl wr.heap.size rfl 56 #[.bool true, .int .i64 frn, .int .i64 nn, .slice Ad o.data.length cd] (0, 0) _ (heap_alloc_new _ _) Try.underlying56 rfl (by kernel_rfl) ?_)
            | (go_at_call 47; (with_reducible refine KR.out.mono ?_); rintro e w5 ⟨rfl, hb5⟩
               have hrow : w5.heap[wr.heap.size]? = some (.cells #[.bool true, .int .i64 frn, .int .i64 nn, .slice Ad o.data.length cd] 56 (0, 0)) := (hb5.block _ (by simp)).trans (heap_alloc_new _ _)
               have hB5 := (hbw (.cells #[.bool true, .int .i64 frn, .int .i64 nn, .slice Ad o.data.length cd] 56)).trans (hb5.mono (by simp))
               have hs5 : wr.heap.size < w5.heap.size := Nat.lt_of_lt_of_le (by simp) hb5.size
               have HROW := Lib.hid hrow
               have r0 : w5.cell? ⟨wr.heap.size, 0, none⟩ = some (.bool true) := by rw [cell_of_row _ _ _ _ _ _ hrow]; rfl
               clear hrow))
          obtain ⟨m, hm⟩ : ∃ m, m = cutN nn := ⟨_, rfl⟩
          obtain ⟨rb, hrb⟩ : ∃ rb, rb = wr.heap.size := ⟨_, rfl⟩
          rw [← hrb] at HROW hs5 ⊢
          have HRB := Lib.hid hrb; have HM2 := Lib.hid hm; have HFRN := Lib.hid hfrn; have HNN := Lib.hid hnn; have HBB := Lib.hid hb; have HHB := Lib.hid hB5; have HCP := Lib.hid hcp
          have HOK := Lib.hid hok; have HLT := Lib.hid hlt; have HFL := Lib.hid (And.intro hfl (And.intro hn1 hn2)); have HS5 := Lib.hid hs5; have HK := Lib.hid hk; have HL := Lib.hid hl
          clear hrb hm KR hcl r0 hb5 hbw hfrn hnn hb hB5 hcp
          clear hl hb q1 ho q2 hs2 hA2 h1 h2 hB3 hs3 hpl hk hlt hA hmd hcd hok hfl hn1 hn2 hs5
          go_cut [11, 12] from 27 to 107 (fun t11 t12 wx => ∃ (v6 : Value), t12 = v6 ∧ t11 = .int .u8 (encC frn m 4) ∧ WinB wx w5.heap.size 5 v6 (encT frn m 4) ∧ Below w5.heap.size w5 wx)
          case first =>
            go_wp2_with fail
            go_loopw [11, 12, 13] (fun t11 t12 t13 wi => ∃ i : Nat, t13 = .int .i64 i ∧ i ≤ 4 ∧ t11 = .int .u8 (encC frn m i) ∧ WinB wi w5.heap.size 5 t12 (encT frn m i) ∧ Below w5.heap.size w5 wi) (fun _ _ t13 _ => 4 - (intOf t13).toNat)
            case atStart => exact ⟨0, rfl, by omega, rfl, Win.nil _ _ _ _, Below.refl _ _⟩
            case round =>
              obtain ⟨i, rfl, hi, rfl, hwt, hbi⟩ := hrel
              have hrow := (hbi.block _ HS5.out).trans HROW.out
              have r1 : wr.cell? ⟨rb, 1, none⟩ = some (.int .i64 frn) := by rw [cell_of_row _ _ _ _ _ _ hrow]; rfl
              have htl := encT_len frn m i
              obtain ⟨A6, c6, rfl, _, _, _⟩ := WinB.reads hwt
              have HWT := Lib.hid hwt
              clear hwt hrow
              by_cases h4 : i < 4
              · have hby := byte_at frn i
                have hbe : encB frn m i = frn / 2 ^ (8 * i) % 256 := if_pos h4
                rw [← hbe] at hby
                clear hbe
                have hbl2 := encB_lt frn m i
                have ew0 : IntKind.u64.wrap (i : Int) = (i : Int) := IntWalk.u64_in _ (by omega)
                have ew1 : IntKind.u64.wrap (8 * (i : Int)) = 8 * (i : Int) := IntWalk.u64_in _ (by omega)
                have ew2 : 0 ≤ 8 * (i : Int) := by omega
                have ew3 : (8 * (i : Int)).toNat = 8 * i := by omega
                by_cases h0 : encB frn m i = 0
                · have HC := Lib.hid (show encC frn m (i + 1) = encC frn m i by rw [encC, if_pos h0])
                  have HT := Lib.hid (show encT frn m (i + 1) = encT frn m i by rw [encT, if_pos h0])
                  rw [h0] at hby
                  clear h0 hbl2
                  go_wp2
                  go_roundw
                  case rel => exact ⟨i + 1, by go_num, by omega, by rw [HC.out], by rw [HT.out]; exact HWT.out, hbi⟩
                  case measure => simp [intOf]; omega
                · have HC := Lib.hid (encC_or (fr := frn) (n := m) (i := i) (by omega) h0)
                  have HT := Lib.hid (show encT frn m (i + 1) = encT frn m i ++ [UInt8.ofNat (encB frn m i)] by rw [encT, if_neg h0])
                  obtain ⟨hor, hpw⟩ := HC.out
                  have q1 : ((encB frn m i : Int) != 0) = true := by simp [h0]
                  have E8 := Lib.hid (show (encB frn m i : Int) = ((UInt8.ofNat (encB frn m i)).toNat : Int) by simp; omega)
                  have hbA : Below wr.heap.size wr (wr.alloc (.cells #[.int .u8 (encB frn m i)] 5)) := (Below.refl _ _).alloc (Nat.le_refl _) _
                  have hsz5 := hbi.size
                  clear h0
                  go_wp2_with (at_builtin
                               refine appW22 rfl (.tmp 71) (.tmp 73) rfl w5.heap.size _ (encT frn m i) rfl (Win.below HWT.out hbA) (some ⟨wr.heap.size, 0, none⟩) 1 [UInt8.ofNat (encB frn m i)] rfl (Sl.of_block (heap_alloc_new _ _) (one_byte E8.out)) (by simp; omega) (Nat.le_trans hsz5 hbA.size) ?_
                               intro v7 w7 hw7 hk7 _)
                  go_roundw
                  case rel => exact ⟨i + 1, by go_num, by omega, rfl, by rw [HT.out]; exact hw7, (hbi.trans (hbA.mono hsz5)).trans (hk7.toBelow (Nat.le_trans hsz5 hbA.size) (fun g hg e => absurd (Win.block HWT.out g e).1 (by omega)))⟩
                  case measure => simp [intOf]; omega
              · obtain rfl : i = 4 := by omega
                go_wp2
                go_meet
                case rel => exact ⟨_, rfl, rfl, HWT.out, hbi⟩
          case rest =>
            obtain ⟨v6, rfl, rfl, hw6, hb6⟩ := hcut
            go_upto_block 4 with fail
            go_cut [11, 12] from 27 to 107 (fun t11 t12 wx => ∃ (v7 : Value), t12 = v7 ∧ t11 = .int .u8 (encC frn m 7) ∧ WinB wx w5.heap.size 5 v7 (encT frn m 7) ∧ Below w5.heap.size w5 wx)
            case first =>
              go_wp2_with fail
              go_loopw [11, 12, 15] (fun t11 t12 t15 wi => ∃ j : Nat, t15 = .int .i64 j ∧ j ≤ 3 ∧ t11 = .int .u8 (encC frn m (4 + j)) ∧ WinB wi w5.heap.size 5 t12 (encT frn m (4 + j)) ∧ Below w5.heap.size w5 wi) (fun _ _ t15 _ => 3 - (intOf t15).toNat)
              case atStart => exact ⟨0, rfl, by omega, rfl, hw6, hb6⟩
              case round =>
                clear hw6 hb6
                obtain ⟨j, rfl, hj, rfl, hwt, hbi⟩ := hrel
                have hrow := (hbi.block _ HS5.out).trans HROW.out
                obtain ⟨z, hz⟩ : ∃ z : Int, z = (nn : Int) := ⟨_, rfl⟩
                have r2 : wr.cell? ⟨rb, 2, none⟩ = some (.int .i64 z) := by rw [cell_of_row _ _ _ _ _ _ hrow, hz]; rfl
                have htl := encT_len frn m (4 + j)
                obtain ⟨A6, c6, rfl, _, _, _⟩ := WinB.reads hwt
                have HWT := Lib.hid hwt
                clear hwt hrow
                obtain ⟨hfl, hn1, hn2⟩ := HFL.out
                by_cases h4 : j < 3
                · by_cases hbig : nn < 65536
                  · have q2 : decide (z < 65536) = true := decide_eq_true (by omega)
                    have hmn : m = nn := by rw [HM2.out]; unfold cutN; rw [if_neg (by omega)]
                    have hby := byte_at nn j
                    have hbe : encB frn m (4 + j) = nn / 2 ^ (8 * j) % 256 := by
                      unfold encB
                      rw [if_neg (by omega), hmn, show 4 + j - 4 = j by omega]
                    rw [← hbe, ← hz] at hby
                    clear hbe hmn hbig hn1 hn2 hfl hz
                    have hbl2 := encB_lt frn m (4 + j)
                    have ew0 : IntKind.u64.wrap (j : Int) = (j : Int) := IntWalk.u64_in _ (by omega)
                    have ew1 : IntKind.u64.wrap (8 * (j : Int)) = 8 * (j : Int) := IntWalk.u64_in _ (by omega)
                    have ew2 : 0 ≤ 8 * (j : Int) := by omega
                    have ew3 : (8 * (j : Int)).toNat = 8 * j := by omega
                    by_cases h0 : encB frn m (4 + j) = 0
                    · have HC := Lib.hid (show encC frn m (4 + (j + 1)) = encC frn m (4 + j) by rw [show 4 + (j + 1) = (4 + j) + 1 by omega, encC, if_pos h0])
                      have HT := Lib.hid (show encT frn m (4 + (j + 1)) = encT frn m (4 + j) by rw [show 4 + (j + 1) = (4 + j) + 1 by omega, encT, if_pos h0])
                      rw [h0] at hby
                      clear h0 hbl2
                      go_wp2
                      go_roundw
                      case rel => exact ⟨j + 1, by go_num, by omega, by rw [HC.out], by rw [HT.out]; exact HWT.out, hbi⟩
                      case measure => simp [intOf]; omega
                    · have HC := Lib.hid (encC_or (fr := frn) (n := m) (i := 4 + j) (by omega) h0)
                      have HT := Lib.hid (show encT frn m (4 + (j + 1)) = encT frn m (4 + j) ++ [UInt8.ofNat (encB frn m (4 + j))] by rw [show 4 + (j + 1) = (4 + j) + 1 by omega, encT, if_neg h0])
                      obtain ⟨hor, hpw⟩ := HC.out
                      have hp16 : (16 : Int) * 2 ^ j = 2 ^ (4 + j) := by rw [Int.pow_add]; rfl
                      have q1 : ((encB frn m (4 + j) : Int) != 0) = true := by simp [h0]
                      have E8 := Lib.hid (show (encB frn m (4 + j) : Int) = ((UInt8.ofNat (encB frn m (4 + j))).toNat : Int) by simp; omega)
                      have hbA : Below wr.heap.size wr (wr.alloc (.cells #[.int .u8 (encB frn m (4 + j))] 5)) := (Below.refl _ _).alloc (Nat.le_refl _) _
                      have hsz5 := hbi.size
                      clear h0
                      go_wp2_with (at_builtin
                                   refine appW22 rfl (.tmp 98) (.tmp 100) rfl w5.heap.size _ (encT frn m (4 + j)) rfl (Win.below HWT.out hbA) (some ⟨wr.heap.size, 0, none⟩) 1 [UInt8.ofNat (encB frn m (4 + j))] rfl (Sl.of_block (heap_alloc_new _ _) (one_byte E8.out)) (by simp; omega) (Nat.le_trans hsz5 hbA.size) ?_
                                   intro v7 w7 hw7 hk7 _)
                      go_roundw
                      case rel => exact ⟨j + 1, by go_num, by omega, rfl, by rw [HT.out]; exact hw7, (hbi.trans (hbA.mono hsz5)).trans (hk7.toBelow (Nat.le_trans hsz5 hbA.size) (fun g hg e => absurd (Win.block HWT.out g e).1 (by omega)))⟩
                      case measure => simp [intOf]; omega
                  · have hm0 : m = 0 := by rw [HM2.out]; unfold cutN; rw [if_pos (by omega)]
                    have HZ := Lib.hid (encC_big frn j (by omega))
                    have HM0 := Lib.hid hm0
                    have q2 : decide (z < 65536) = false := decide_eq_false (by omega)
                    clear hm0 hbig hn1 hn2 hfl hz
                    go_wp2
                    go_meet
                    case rel => exact ⟨_, rfl, by rw [HM0.out, HZ.out.1], by rw [HM0.out, HZ.out.2, ← HM0.out]; exact HWT.out, hbi⟩
                · obtain rfl : j = 3 := by omega
                  clear hn1 hn2 hfl hz
                  go_wp2
                  go_meet
                  case rel => exact ⟨_, rfl, rfl, HWT.out, hbi⟩
            case rest =>
              clear hw6 hb6
              obtain ⟨v7, rfl, rfl, hw7, hb7⟩ := hcut
              obtain ⟨A7, c7, rfl, _, _, _⟩ := WinB.reads hw7
              have htl := encT_len frn m 7
              have hcl := encC_bits frn m
              have HW7 := Lib.hid hw7
              have hwW : Below wr.heap.size wr wc := HHB.out.trans (hb7.mono (Nat.le_of_lt (by rw [← HRB.out]; exact HS5.out)))
              have hw0 := HBB.out.size
              have hwv : WinB wc w.heap.size 5 (.slice A4 (pre.length + (encs (l.take k)).length) c4) (pre ++ encs (l.take k)) := Win.below HWV.out hwW
              have hbA : Below wc.heap.size wc (wc.alloc (.cells #[.int .u8 (encC frn m 7)] 5)) := (Below.refl _ _).alloc (Nat.le_refl _) _
              have E8 := Lib.hid (show (encC frn m 7 : Int) = ((UInt8.ofNat (encC frn m 7)).toNat : Int) by simp; omega)
              have hown : ∀ g, (Value.slice A4 (pre.length + (encs (l.take k)).length) c4).ownBlock = some g → g < wr.heap.size := fun g hg => (Win.block HWV.out g hg).2
              have hrs : wr.heap.size < w5.heap.size := by rw [← HRB.out]; exact HS5.out
              have HWV2 := Lib.hid hwv; have HOW := Lib.hid hown
              have hxl := HXL.out
              rw [List.length_append] at hxl
              have hsc := hwW.size
              have hltk := HLT.out
              have hll := HL.out
              clear hwv hown hw7 hcl
              go_wp2_with (first
                | (at_builtin
                   refine appW22 rfl (.tmp 102) (.tmp 104) rfl w.heap.size _ (pre ++ encs (l.take k)) rfl (Win.below HWV2.out hbA) (some ⟨wc.heap.size, 0, none⟩) 1 [UInt8.ofNat (encC frn m 7)] rfl (Sl.of_block (heap_alloc_new _ _) (one_byte E8.out)) (by simp; omega) (Nat.le_trans (Nat.le_trans hw0 hsc) hbA.size) ?_
                   intro v8 w8 hw8 hk8 ho8
                   obtain ⟨A8, c8, rfl, _, _, _⟩ := WinB.readsN (n := pre.length + (encs (l.take k)).length + 1) hw8 (by simp; omega)
                   have hd8 : Bs w8 A7 (encT frn m 7) := Win.at_ (Win.kp (Win.below HW7.out hbA) hk8 (fun g hg e => absurd (Win.block HW7.out g hg).1 (by have := HOW.out g e; omega)))
                   have hb8 : Below w.heap.size w w8 := ((HBB.out.trans (hwW.mono hw0)).trans (hbA.mono (Nat.le_trans hw0 hsc))).trans (hk8.toBelow (Nat.le_trans (Nat.le_trans hw0 hsc) hbA.size) (fun g hg e => absurd (Win.block HWV.out g e).1 (by omega)))
                   have HW8 := Lib.hid hw8; have HD8 := Lib.hid hd8
                   clear hw8 hd8 hk8 ho8)
                | (at_builtin
                   refine appW22 rfl (.tmp 105) (.tmp 106) rfl w.heap.size _ (pre ++ encs (l.take k) ++ [UInt8.ofNat (encC frn m 7)]) rfl HW8.out A7 c7 (encT frn m 7) rfl HD8.out (by simp; omega) hb8.size ?_
                   intro v9 w9 hw9 hk9 ho9
                   have hb9 : Below w.heap.size w w9 := hb8.trans (hk9.toBelow hb8.size (fun g hg e => absurd (Win.block HW8.out g e).1 (by omega)))))
              go_roundw
              case rel =>
                refine ⟨k + 1, by go_num, by omega, HOK2.out HOK.out, ?_, hb9⟩
                rw [HTK.out, HX2.out, encCopy, ← HM2.out, ← List.append_assoc]
                simpa using hw9
              case measure => simp [intOf]; omega
        | false =>
          have kr := right_any o Ad cd (wr.alloc (.cells #[.bool false, .int .i64 o.fr, .int .i64 o.n, .slice Ad o.data.length cd] 56))
          rw [decide_eq_true hok] at kr
          unfold opV at kr
          rw [hcp] at kr
          have KR := Lib.hid kr; clear kr
          obtain ⟨t1, t2, t3, t4⟩ := (okOp_in hcp).1 hok
          clear t3 t4
          have ew : IntKind.u8.wrap (o.data.length : Int) = (o.data.length : Int) := IntWalk.u8_in _ (by omega)
          have e8 : (o.data.length : Int) = ((UInt8.ofNat o.data.length).toNat : Int) := by simp; omega
          have E8 := Lib.hid e8; clear e8
          go_wp2_with (first
            | (refine wpList_load_agg rfl 56 (.tmp 35) rfl (ad.add (k * 4)) rfl (opCells (.slice Ad o.data.length cd) o) _ hcl.out Try.underlying56 rfl (by kernel_rfl) ?_; rw [opCells_at, hcp])
            | (refine wpList_load_row rfl 56 (.tmp 10) rfl wr.heap.size rfl 56 #[.bool false, .int .i64 o.fr, .int .i64 o.n, .slice Ad o.data.length cd] (0, 0) _ (heap_alloc_new _ _) Try.underlying56 rfl (by kernel_rfl) ?_)
            | (go_at_call 47; (with_reducible refine KR.out.mono ?_); rintro e w5 ⟨rfl, hb5⟩
               have hrow : w5.heap[wr.heap.size]? = some (.cells #[.bool false, .int .i64 o.fr, .int .i64 o.n, .slice Ad o.data.length cd] 56 (0, 0)) := (hb5.block _ (by simp)).trans (heap_alloc_new _ _)
               have hB5 := (hbw (.cells #[.bool false, .int .i64 o.fr, .int .i64 o.n, .slice Ad o.data.length cd] 56)).trans (hb5.mono (by simp))
               have r0 : w5.cell? ⟨wr.heap.size, 0, none⟩ = some (.bool false) := by rw [cell_of_row _ _ _ _ _ _ hrow]; rfl
               have r3 : w5.cell? ⟨wr.heap.size, 3, none⟩ = some (.slice Ad o.data.length cd) := by rw [cell_of_row _ _ _ _ _ _ hrow]; rfl))
          have hlx := HXL.out
          have hr6 : ∀ w6 : World, Kp (fun g => (Value.slice A4 (pre.length + (encs (l.take k)).length) c4).ownBlock = some g) ((w5.alloc (.cells #[.int .u8 o.data.length] 5)).drew) w6 → w6.cell? ⟨wr.heap.size, 3, none⟩ = some (.slice Ad o.data.length cd) ∧ Below w.heap.size w w6 := by
            intro w6 hk6
            have hb6 : Below wr.heap.size wr ((w5.alloc (.cells #[.int .u8 o.data.length] 5)).drew) := (hB5.alloc hB5.size _).drew
            refine ⟨?_, (hb.trans (hb6.mono hb.size)).trans (hk6.toBelow (Nat.le_trans hb.size hb6.size) (fun g hg e => absurd (Win.block HWV.out g e).1 (by omega)))⟩
            refine hk6.cell (v := .slice Ad o.data.length cd) ?_ (fun e => absurd (Win.block HWV.out _ e).2 (by simp))
            rw [show ((w5.alloc (.cells #[.int .u8 o.data.length] 5)).drew).cell? ⟨wr.heap.size, 3, none⟩ = (w5.alloc (.cells #[.int .u8 o.data.length] 5)).cell? ⟨wr.heap.size, 3, none⟩ from rfl]
            exact (((Below.refl w5.heap.size w5).alloc (Nat.le_refl _) _).cell (World.block_lt_of_cell? w5 _ r3)).trans r3
          have HR6 := Lib.hid hr6; clear hr6
          have r3a : (w5.alloc (.cells #[.int .u8 o.data.length] 5)).cell? ⟨wr.heap.size, 3, none⟩ = some (.slice Ad o.data.length cd) := (((Below.refl w5.heap.size w5).alloc (Nat.le_refl _) _).cell (World.block_lt_of_cell? w5 _ r3)).trans r3
          have r3b : ((w5.alloc (.cells #[.int .u8 o.data.length] 5)).drew).cell? ⟨wr.heap.size, 3, none⟩ = some (.slice Ad o.data.length cd) := r3a
          have r3c : w5.drew.cell? ⟨wr.heap.size, 3, none⟩ = some (.slice Ad o.data.length cd) := r3
          go_region_law (first
            | (refine step_appW22 rfl (.tmp 43) (.tmp 48) rfl w.heap.size _ (pre ++ encs (l.take k)) rfl (Win.below HWV.out ((hB5.alloc hB5.size _).drew)) (some ⟨w5.heap.size, 0, none⟩) 1 [UInt8.ofNat o.data.length] rfl (Sl.of_block (heap_alloc_new w5 _) (one_byte E8.out)) (by simp; simp at hlx; omega) (Nat.le_trans hb.size ((hB5.alloc hB5.size _).drew).size) ?_
               intro v6 w6 hw6 hk6 ho6
               obtain ⟨A6, c6, rfl, _, _, _⟩ := WinB.readsN (n := pre.length + (encs (l.take k)).length + 1) hw6 (by simp; omega)
               obtain ⟨r6, hB6⟩ := HR6.out w6 hk6)
            | (refine step_appW22 rfl (.tmp 49) (.tmp 51) rfl w.heap.size _ _ rfl hw6 Ad cd o.data rfl (Sl.below HDA.out hB6) (by simp; simp at hlx; omega) hB6.size ?_
               intro v7 w7 hw7 hk7 ho7
               have hB7 := hB6.trans (hk7.toBelow hB6.size (fun g hg e => absurd (Win.block hw6 g e).1 (by omega)))))
          all_goals (
            go_wp2
            go_roundw
            case rel =>
              refine ⟨k + 1, by go_num, by omega, HOK2.out hok, ?_, hB7⟩
              rw [HTK.out, enc, if_neg (by rw [hcp]; decide), show pre ++ (encs (l.take k) ++ UInt8.ofNat o.data.length :: o.data) = pre ++ encs (l.take k) ++ [UInt8.ofNat o.data.length] ++ o.data by simp]
              exact hw7
            case measure => simp [intOf]; omega)
      · have kr := fun W => right_any o Ad cd W
        rw [decide_eq_false hok] at kr
        have KR := Lib.hid kr; clear kr
        have hR : printR bn on l = ([], 1) := BAD.out (fun h => hok (h o HM.out))
        have HR := Lib.hid hR; clear hR
        go_wp2_with (first
          | (refine wpList_load_agg rfl 56 (.tmp 35) rfl (ad.add (k * 4)) rfl (opCells (.slice Ad o.data.length cd) o) _ hcl.out Try.underlying56 rfl (by kernel_rfl) ?_; rw [opCells_at])
          | (refine wpList_load_row rfl 56 (.tmp 10) rfl wr.heap.size rfl 56 #[.bool o.cp, .int .i64 o.fr, .int .i64 o.n, .slice Ad o.data.length cd] (0, 0) _ (heap_alloc_new _ _) Try.underlying56 rfl (by kernel_rfl) ?_)
          | (go_at_call 47; (with_reducible refine (KR.out _).mono ?_); rintro e w5 ⟨rfl, hb5⟩))
        go_ret2
        exact ⟨.slice none 0 0, by rw [HR.out]; rfl, by rw [HR.out]; exact Win.nil _ _ _ _, hb.trans (((hbw _).trans (hb5.mono (by simp))).mono hb.size)⟩
    · obtain rfl : k = l.length := by omega
      have hwf := HWV.out
      have hok2 := HOKS.out
      rw [List.take_length] at hok2
      have hR : printR bn on l = _ := HR3.out hok2
      have HR := Lib.hid hR; clear hR
      have hx : pre ++ encs (l.take l.length) = pre ++ encs l := by rw [List.take_length]
      have HWF := Lib.hid hwf; have HXX := Lib.hid hx; clear hwf hx
      go_wp2
      go_ret2
      exact ⟨_, by rw [HR.out]; rfl, by rw [HR.out]; show WinB wr w.heap.size 5 _ (pre ++ encs l); rw [← HXX.out]; exact HWF.out, hb⟩
end Go.Proofs.Ytpfjkappgdpfbaa
