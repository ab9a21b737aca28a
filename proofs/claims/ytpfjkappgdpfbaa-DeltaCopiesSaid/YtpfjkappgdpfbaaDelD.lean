/- The maker's best finds a copy that stands in base and in target. Condition: lists have at most 2^39 bytes. -/
import Derived.Test.YtpfjkappgdpfbaaDelB
import Derived.Deep.CutBlock
namespace Go.Proofs.Ytpfjkappgdpfbaa
open Go.RowKit
set_option maxRecDepth 100000
set_option maxHeartbeats 4000000
/-- what best may answer -/
def BestP (base target : List UInt8) (p wl f b n : Nat) : Prop := n = 0 ∨ (b + 16 ≤ n ∧ b ≤ wl ∧ b ≤ p ∧ f + n ≤ base.length ∧ p - b + n ≤ target.length ∧ (base.drop f).take n = (target.drop (p - b)).take n)
def poss (ps : List Nat) : List Value := ps.map fun p => Value.int .i64 (p : Nat)
theorem take_more {l m : List UInt8} {i j k : Nat} (h : (l.drop i).take k = (m.drop j).take k) (h1 : i + k < l.length) (h2 : j + k < m.length) (e : l[i + k] = m[j + k]) : (l.drop i).take (k + 1) = (m.drop j).take (k + 1) := by
  rw [List.take_succ_eq_append_getElem (by simp; omega), List.take_succ_eq_append_getElem (by simp; omega), h, List.getElem_drop, List.getElem_drop, e]
theorem take_back {l m : List UInt8} {i j k : Nat} (hi : k < i) (hj : k < j) (h : (l.drop (i - k)).take k = (m.drop (j - k)).take k) (h1 : i ≤ l.length) (h2 : j ≤ m.length) (e : l[i - k - 1]'(by omega) = m[j - k - 1]'(by omega)) : (l.drop (i - (k + 1))).take (k + 1) = (m.drop (j - (k + 1))).take (k + 1) := by
  have a1 : l.drop (i - (k + 1)) = l[i - k - 1]'(by omega) :: l.drop (i - k) := by
    rw [show i - (k + 1) = i - k - 1 by omega, List.drop_eq_getElem_cons (by omega)]
    congr 2; omega
  have a2 : m.drop (j - (k + 1)) = m[j - k - 1]'(by omega) :: m.drop (j - k) := by
    rw [show j - (k + 1) = j - k - 1 by omega, List.drop_eq_getElem_cons (by omega)]
    congr 2; omega
  rw [a1, a2, List.take_succ_cons, List.take_succ_cons, h, e]
theorem take_join {l m : List UInt8} {i j k b : Nat} (hi : b ≤ i) (hj : b ≤ j) (h : (l.drop i).take k = (m.drop j).take k) (h2 : (l.drop (i - b)).take b = (m.drop (j - b)).take b) : (l.drop (i - b)).take (k + b) = (m.drop (j - b)).take (k + b) := by
  rw [Nat.add_comm k b, List.take_add, List.take_add, h2, List.drop_drop, List.drop_drop, show i - b + b = i by omega, show j - b + b = j by omega, h]
theorem best_any (mb : Nat) (Ab : Option Addr) (cb : Nat) (base : List UInt8) (vm vo : Value) (Aw : Option Addr) (wl cw : Nat) (At : Option Addr) (ct : Nat) (target : List UInt8) (p : Nat) (Ap : Option Addr) (cp : Nat) (ps : List Nat) (w : World)
    (hM : w.heap[mb]? = some (.cells #[.slice Ab base.length cb, vm, vo, .slice Aw wl cw] 86 (0, 0))) (hAb : Bs w Ab base) (hAt : Bs w At target) (hp : p ≤ target.length) (hwl : wl ≤ p) (hps : Sl w Ap (poss ps)) (hpb : ∀ i ∈ ps, i ≤ base.length)
    (hb : base.length ≤ 549755813888) (ht : target.length ≤ 549755813888) (hpl : ps.length ≤ 1099511627776) :
    Calls Try.prog 64 #[.pointer (some ⟨mb, 0, none⟩), .slice At target.length ct, .int .i64 p, .slice Ap ps.length cp] w fun e w' =>
      ∃ f b n : Nat, e = .returned (.tuple #[.int .i64 f, .int .i64 b, .int .i64 n]) ∧ BestP base target p wl f b n ∧ Below w.heap.size w w' := by
  have hml : mb < w.heap.size := (Array.getElem?_eq_some_iff.1 hM).1
  go_enter Try.func64, Try.ntmps64
  go_wp2
  go_loopw [8, 9, 10, 17] (fun t8 t9 t10 t17 wr => ∃ f b n k : Nat, t8 = .int .i64 f ∧ t9 = .int .i64 b ∧ t10 = .int .i64 n ∧ t17 = .int .i64 k ∧ k ≤ ps.length ∧ n ≤ base.length ∧ BestP base target p wl f b n ∧ Below w.heap.size w wr) (fun _ _ _ t17 _ => ps.length - (intOf t17).toNat)
  case atStart => exact ⟨0, 0, 0, 0, rfl, rfl, rfl, rfl, by omega, by omega, .inl rfl, Below.refl _ _⟩
  case round =>
    obtain ⟨f, b, n, k, rfl, rfl, rfl, rfl, hk, hnb, hbp, hbl⟩ := hrel
    by_cases hlt : k < ps.length
    · obtain ⟨ad, rfl, hcell⟩ := (hps.below hbl) k (.int .i64 ps[k]) (by simp [poss, hlt])
      have hib := hpb ps[k] (List.getElem_mem hlt)
      obtain ⟨i, hi⟩ : ∃ i, i = ps[k] := ⟨_, rfl⟩
      rw [← hi] at hcell hib
      have HBP := Lib.hid hbp
      clear hi hbp
      go_upto_block 2 with fail
      go_cut [13] from 21 to 57 (fun t13 wx => ∃ q : Nat, t13 = .int .i64 q ∧ i + q ≤ base.length ∧ p + q ≤ target.length ∧ (base.drop i).take q = (target.drop p).take q ∧ Below w.heap.size w wx)
      case first =>
        go_wp2_with fail
        go_loopw [13] (fun t13 wx => ∃ q : Nat, t13 = .int .i64 q ∧ i + q ≤ base.length ∧ p + q ≤ target.length ∧ (base.drop i).take q = (target.drop p).take q ∧ Below w.heap.size w wx) (fun t13 _ => base.length - (intOf t13).toNat)
        case atStart => exact ⟨0, rfl, by omega, by omega, by simp, hbl⟩
        case round =>
          clear hcell hbl
          obtain ⟨q, rfl, hq1, hq2, htk, hbw⟩ := hrel
          have HTK := Lib.hid htk; clear htk
          have c0 : wr.cell? ⟨mb, 0, none⟩ = some (.slice Ab base.length cb) := by rw [cell_of_row _ _ _ _ _ _ ((hbw.block mb hml).trans hM)]; rfl
          by_cases g1 : i + q < base.length
          · by_cases g2 : p + q < target.length
            · obtain ⟨ab, rfl, hc1⟩ := Bs.at (hAb.below hbw) g1
              obtain ⟨at', rfl, hc2⟩ := Bs.at (hAt.below hbw) g2
              have b1 : decide ((i : Int) + (q : Int) < (base.length : Int)) = true := decide_eq_true (by omega)
              have b2 : decide ((p : Int) + (q : Int) < (target.length : Int)) = true := decide_eq_true (by omega)
              have w1 : ((i : Int) + (q : Int)).toNat = i + q := by omega
              have w2 : ((p : Int) + (q : Int)).toNat = p + q := by omega
              by_cases e : base[i + q] = target[p + q]
              · have htk2 := take_more HTK.out g1 g2 e
                have q3 := u8_eq e
                have HTK2 := Lib.hid htk2; clear htk2 e
                go_wp2
                go_quiet (fail)
                go_wp2
                go_roundw
                case rel => exact ⟨q + 1, by go_num, by omega, by omega, HTK2.out, Below.drewN hbw _⟩
                case measure => simp [intOf]; omega
              · have q3 := u8_ne e
                clear e
                go_wp2
                go_quiet (fail)
                go_wp2
                go_meet
                case rel => exact ⟨q, rfl, hq1, hq2, HTK.out, Below.drewN hbw _⟩
            · have b1 : decide ((i : Int) + (q : Int) < (base.length : Int)) = true := decide_eq_true (by omega)
              have b2 : decide ((p : Int) + (q : Int) < (target.length : Int)) = false := decide_eq_false (by omega)
              go_wp2
              go_quiet (fail)
              go_wp2
              go_meet
              case rel => exact ⟨q, rfl, hq1, hq2, HTK.out, Below.drewN hbw _⟩
          · have b1 : decide ((i : Int) + (q : Int) < (base.length : Int)) = false := decide_eq_false (by omega)
            go_wp2
            go_quiet (fail)
            go_wp2
            go_meet
            case rel => exact ⟨q, rfl, hq1, hq2, HTK.out, Below.drewN hbw _⟩
      case rest =>
        clear hcell hbl
        obtain ⟨q, rfl, hq1, hq2, htk, hbc⟩ := hcut
        have HTK := Lib.hid htk; clear htk
        go_upto_block 4 with fail
        go_cut [14] from 58 to 91 (fun t14 wx => ∃ d : Nat, t14 = .int .i64 d ∧ d ≤ i ∧ d ≤ wl ∧ (base.drop (i - d)).take d = (target.drop (p - d)).take d ∧ Below w.heap.size w wx)
        case first =>
          go_wp2_with fail
          go_loopw [14] (fun t14 wx => ∃ d : Nat, t14 = .int .i64 d ∧ d ≤ i ∧ d ≤ wl ∧ (base.drop (i - d)).take d = (target.drop (p - d)).take d ∧ Below w.heap.size w wx) (fun t14 _ => base.length - (intOf t14).toNat)
          case atStart => exact ⟨0, rfl, by omega, by omega, by simp, hbc⟩
          case round =>
            clear hbc
            obtain ⟨d, rfl, hd1, hd2, htd, hbw⟩ := hrel
            have HTD := Lib.hid htd; clear htd
            have c0 : wr.cell? ⟨mb, 0, none⟩ = some (.slice Ab base.length cb) := by rw [cell_of_row _ _ _ _ _ _ ((hbw.block mb hml).trans hM)]; rfl
            have c3 : wr.cell? ⟨mb, 3, none⟩ = some (.slice Aw wl cw) := by rw [cell_of_row _ _ _ _ _ _ ((hbw.block mb hml).trans hM)]; rfl
            by_cases g1 : d < i
            · by_cases g2 : d < wl
              · have p1 : i - d - 1 < base.length := by omega
                have p2 : p - d - 1 < target.length := by omega
                obtain ⟨ab, rfl, hc1⟩ := Bs.at (hAb.below hbw) p1
                obtain ⟨at', rfl, hc2⟩ := Bs.at (hAt.below hbw) p2
                have w1 : ((i : Int) - (d : Int) - 1).toNat = i - d - 1 := by omega
                have w2 : ((p : Int) - (d : Int) - 1).toNat = p - d - 1 := by omega
                by_cases e : base[i - d - 1] = target[p - d - 1]
                · have htd2 := take_back g1 (by omega) HTD.out hib hp e
                  have q3 := u8_eq e
                  have HTD2 := Lib.hid htd2; clear htd2 e
                  go_wp2
                  go_quiet (fail)
                  go_wp2
                  go_roundw
                  case rel => exact ⟨d + 1, by go_num, by omega, by omega, HTD2.out, Below.drewN hbw _⟩
                  case measure => simp [intOf]; omega
                · have q3 := u8_ne e
                  clear e
                  go_wp2
                  go_quiet (fail)
                  go_wp2
                  go_meet
                  case rel => exact ⟨d, rfl, hd1, hd2, HTD.out, Below.drewN hbw _⟩
              · go_wp2
                go_quiet (fail)
                go_wp2
                go_meet
                case rel => exact ⟨d, rfl, hd1, hd2, HTD.out, Below.drewN hbw _⟩
            · go_wp2
              go_quiet (fail)
              go_wp2
              go_meet
              case rel => exact ⟨d, rfl, hd1, hd2, HTD.out, Below.drewN hbw _⟩
        case rest =>
          clear hbc
          obtain ⟨d, rfl, hd1, hd2, htd, hbw⟩ := hcut
          have HTD := Lib.hid htd; clear htd
          by_cases z1 : 16 ≤ q
          · by_cases z2 : n < q + d
            · go_wp2
              go_roundw
              case rel => exact ⟨i - d, d, q + d, k + 1, by go_num, by go_num, by go_num, by go_num, by omega, by omega, .inr ⟨by omega, hd2, by omega, by omega, by omega, take_join hd1 (by omega) HTK.out HTD.out⟩, hbw⟩
              case measure => simp [intOf]; omega
            · go_wp2
              go_roundw
              case rel => exact ⟨f, b, n, k + 1, rfl, rfl, rfl, by go_num, by omega, hnb, HBP.out, hbw⟩
              case measure => simp [intOf]; omega
          · go_wp2
            go_roundw
            case rel => exact ⟨f, b, n, k + 1, rfl, rfl, rfl, by go_num, by omega, hnb, HBP.out, hbw⟩
            case measure => simp [intOf]; omega
    · have HBP := Lib.hid hbp; clear hbp
      obtain rfl : k = ps.length := by omega
      go_wp2
      go_ret3
      exact ⟨f, b, n, rfl, HBP.out, hbl⟩
end Go.Proofs.Ytpfjkappgdpfbaa
