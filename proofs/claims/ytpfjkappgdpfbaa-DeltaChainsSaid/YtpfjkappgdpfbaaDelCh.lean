/- trovelaw13.DeltaChains answers true at any texts and any effort. No condition. -/
import Derived.Test.YtpfjkappgdpfbaaDelMd
import Derived.Test.YtpfjkappgdpfbaaDelRm
import Derived.StillTailTactics
namespace Go.Proofs.Ytpfjkappgdpfbaa
open Go.RowKit
set_option maxRecDepth 100000
set_option maxHeartbeats 8000000
set_option linter.unusedVariables false
theorem sizes34n (A : Option Addr) (n c : Nat) (l : List UInt8) (w : World) (hn : n = l.length) (hl : l.length ≤ 1099511627776) (hc : n ≤ c) (hA : Bs w A l) (a b x d : Nat) (h : sizesR l = (a, b, x, d)) :
    Calls Try.prog 34 #[.slice A n c] w fun e w' => e = .returned (.tuple #[.int .i64 a, .int .i64 b, .int .i64 d]) ∧ w = w' := by
  subst hn
  exact sizes34 A c l w hl hc hA a b x d h
theorem deltaChains_any (A : Option Addr) (c : Nat) (ls : List (List UInt8)) (effort : Int) (w : World) (hc : ls.length ≤ c) (hA : RwsM w A ls) :
    Calls Try.prog 14 #[.slice A ls.length c, .int .i64 effort] w fun e w' => e = .returned (.bool true) ∧ Below w.heap.size w w' := by
  by_cases h0 : ls.length = 0
  · have q0 : ((ls.length : Int) == 0) = true := by simp [h0]
    have H0 := Lib.hid h0
    clear h0
    go_enter Try.func14, Try.ntmps14
    go_wp2_with (go_at_call 25; refine (known_any _).mono ?_; rintro e w1 ⟨rfl, hb1⟩)
    go_ret
    exact ⟨rfl, hb1⟩
  have q0 : ((ls.length : Int) == 0) = false := by rw [beq_eq_false_iff_ne]; omega
  by_cases h1 : 10 < ls.length
  · go_enter Try.func14, Try.ntmps14
    go_wp2_with (go_at_call 25; refine (known_any _).mono ?_; rintro e w1 ⟨rfl, hb1⟩)
    go_ret
    exact ⟨rfl, hb1⟩
  go_enter Try.func14, Try.ntmps14
  go_wp2_with (go_at_call 25; (with_reducible refine (known_any _).mono ?_); rintro e w1 ⟨rfl, hb1⟩)
  have hA1 := hA.below hb1
  go_loopw [5] (fun t5 wr => ∃ k : Nat, t5 = .int .i64 k ∧ k ≤ ls.length ∧ (∀ d ∈ ls.take k, d.length ≤ 400) ∧ wr = w1) (fun t5 _ => ls.length - (intOf t5).toNat)
  case atStart => exact ⟨0, rfl, by omega, by simp, rfl⟩
  case round =>
    obtain ⟨k, rfl, hk, hok, rfl⟩ := hrel
    have HOK := Lib.hid hok
    clear hok
    by_cases hlt : k < ls.length
    · obtain ⟨ad, Ad, cd, rfl, hcell, hcd, hmd, hdata⟩ := hA1 k ls[k] (by simp [hlt])
      have htk := List.take_succ_eq_append_getElem hlt
      obtain ⟨d, hd⟩ : ∃ d, d = ls[k] := ⟨_, rfl⟩
      rw [← hd] at hcell hcd hdata htk
      have HTK := Lib.hid htk
      clear htk hd hdata
      by_cases e1 : 400 < d.length
      · go_wp2
        go_ret
        exact ⟨rfl, hb1⟩
      · go_wp2
        go_roundw
        case rel =>
          refine ⟨k + 1, by go_num, by omega, fun x hx => ?_, by first | rfl | trivial⟩
          rw [HTK.out, List.mem_append] at hx
          rcases hx with hx | hx
          · exact HOK.out x hx
          · simp at hx; subst hx; omega
        case measure => simp [intOf]; omega
    · obtain rfl : k = ls.length := by omega
      have hall := HOK.out
      rw [List.take_length] at hall
      have HALL := Lib.hid hall
      obtain ⟨ad, Ad, cd, rfl, hcell, hcd, hmd, hdata⟩ := hA1 0 ls[0] (by simp)
      have hc0 : wr.cell? ad = some (.slice Ad ls[0].length cd) := by simpa [Addr.add] using hcell
      have HD := Lib.hid hdata
      clear hdata hall HOK
      go_wp2
      go_loopw [6, 7] (fun t6 t7 wx => ∃ (i j : Nat) (hj : j < ls.length) (An : Option Addr) (cn : Nat), i = j + 1 ∧ t6 = .slice An (ls[j]).length cn ∧ t7 = .int .i64 (i : Int) ∧ (ls[j]).length ≤ cn ∧ cn ≤ maxLen ∧ Bs wx An ls[j] ∧ Below wr.heap.size wr wx) (fun _ t7 _ => ls.length - (intOf t7).toNat)
      case atStart => exact ⟨1, 0, by omega, Ad, cd, rfl, rfl, rfl, hcd, hmd, HD.out, Below.refl _ _⟩
      case round =>
        clear HD hcell hc0 hcd hmd
        obtain ⟨i, j, hj, An, cn, hij, rfl, rfl, hcn, hcnm, hnow, hbx⟩ := hrel
        have hB := hb1.trans (hbx.mono hb1.size)
        obtain ⟨ax, A0, c0, e0, hcell0, hc0, hm0, hd0⟩ := (hA1.below hbx) j ls[j] (by simp [hj])
        injection e0 with e0
        subst e0
        have h400 := HALL.out ls[j] (List.getElem_mem hj)
        have hw1 : (i : Int) - 1 = (j : Int) := by omega
        have hw2 : IntKind.i64.wrap (j : Int) = (j : Int) := IntWalk.i64_in _ (by omega)
        have hw3 : IntKind.i64.wrap ((i : Int) - 1) = (j : Int) := by rw [IntWalk.i64_in _ (by omega)]; omega
        obtain ⟨base, hbase⟩ : ∃ base, base = ls[j] := ⟨_, rfl⟩
        rw [← hbase] at hcell0 hc0 hd0 h400 hcn hnow ⊢
        by_cases hlt : i < ls.length
        · obtain ⟨ax, A1, c1, e0, hcell1, hc1, hm1, hd1⟩ := (hA1.below hbx) i ls[i] (by simp [hlt])
          injection e0 with e0
          subst e0
          have h401 := HALL.out ls[i] (List.getElem_mem hlt)
          obtain ⟨target, htg⟩ : ∃ target, target = ls[i] := ⟨_, rfl⟩
          rw [← htg] at hcell1 hc1 hd1 h401
          have HTG := Lib.hid htg; have HBS := Lib.hid hbase; have HIJ := Lib.hid hij; have HD0 := Lib.hid (show Bs wr.drew A0 base from hd0); have HD1 := Lib.hid (show Bs wr.drew A1 target from hd1); have HNW := Lib.hid hnow
          clear htg hbase hij hd0 hd1 hnow
          have c0d : wr.drew.cell? (ad.add j) = some (.slice A0 base.length c0) := hcell0
          have c1d : wr.drew.cell? (ad.add i) = some (.slice A1 target.length c1) := hcell1
          go_wp2
          go_still_tail 10, (by kernel_rfl)
          change wpList _ _ _ _ _ wr.drew
          go_wp2_with (first
            | (go_at_call 31
               (with_reducible refine (make_any A0 c0 base A1 c1 target effort wr.drew (by omega) (by omega) hc0 hm0 hc1 hm1 HD0.out HD1.out).mono ?_); rintro e w2 ⟨ops, hmade, hl, _, v2, rfl, hw2', hb2⟩
               obtain ⟨dm, hdm⟩ : ∃ dm, dm = putSize base.length ++ putSize target.length ++ encs ops := ⟨_, rfl⟩
               rw [← hdm] at hw2'
               obtain ⟨m2, hm2⟩ : ∃ m2, m2 = dm.length := ⟨_, rfl⟩
               obtain ⟨A2, c2, rfl, hc2, _, hr2⟩ := WinB.readsN (n := m2) hw2' hm2.symm
               have dl : dm.length ≤ 2000000 := by
                 have e1 := putSize_len base.length 3 (by omega) (by decide)
                 have e2 := putSize_len target.length 3 (by omega) (by decide)
                 rw [hdm, List.length_append, List.length_append]; omega
               have r1 : applyD base dm 400 = (target, 0) := by rw [hdm, applyD_made hmade (by omega) (by omega), if_neg (by omega)]
               have r2 : sizesR dm = (base.length, target.length, (putSize base.length).length + (putSize target.length).length, 0) := by rw [hdm]; exact (deltaR_print _ _ (by omega) (by omega) ops (fun o ho => (hmade.1 o ho).1)).1
               have hb2' : Below wr.heap.size wr w2 := (Below.refl wr.heap.size wr).drew.trans hb2
               have k34 := sizes34n A2 m2 c2 dm w2 hm2 (by omega) hc2 hr2 _ _ _ _ r2
               have k33 := apply33 An cn base A2 m2 c2 dm 400 w2 _ (by omega) hcn (Sl.below HNW.out hb2') hm2 (by omega) hc2 hr2 (by omega) r1
               have K34 := Lib.hid k34; have K33 := Lib.hid k33
               clear hw2' hdm r1 r2 hm2 hr2 hmade dl k34 k33)
            | (go_at_call 34; (with_reducible refine K34.out.mono ?_); rintro e w2' ⟨rfl, rfl⟩)
            | (go_at_call 33; (with_reducible refine K33.out.mono ?_); rintro e w3 ⟨v3, rfl, hw3', hb3⟩
               obtain ⟨A3, c3, rfl, hc3, hm3, hr3⟩ := WinB.readsN (n := target.length) hw3' rfl
               have hb3' := hb2'.trans (hb3.mono hb2'.size)
               have c0f : w3.cell? (ad.add j) = some (.slice A0 base.length c0) := (hb3'.cell (World.block_lt_of_cell? wr _ hcell0)).trans hcell0
               have c1f : w3.cell? (ad.add i) = some (.slice A1 target.length c1) := (hb3'.cell (World.block_lt_of_cell? wr _ hcell1)).trans hcell1))
          go_roundw
          case rel => exact ⟨i + 1, i, hlt, A3, c3, rfl, by rw [HTG.out], by go_num, by rw [← HTG.out]; exact hc3, hm3, by rw [← HTG.out]; exact hr3, hbx.trans (hb3'.mono hbx.size)⟩
          case measure => simp [intOf]; omega
        · have hil : i = ls.length := by omega
          have hw4 : (ls.length : Int) - 1 = (j : Int) := by omega
          have hw5 : IntKind.i64.wrap ((ls.length : Int) - 1) = (j : Int) := by rw [IntWalk.i64_in _ (by omega)]; omega
          have f1 : ∀ n, (convert 22 9 (.slice An base.length cn)).run Try.prog (wr.drewN n) = .ok (.string (bstr base)) (wr.drewN n) := fun n => conv22 (fun a b h => hnow a b h) rfl
          have f2 : ∀ n, (convert 22 9 (.slice A0 base.length c0)).run Try.prog (wr.drewN n) = .ok (.string (bstr base)) (wr.drewN n) := fun n => conv22 (fun a b h => hd0 a b h) rfl
          have HBS := Lib.hid hbase; have HIJ := Lib.hid hij; have HIL := Lib.hid hil
          clear hbase hij hil
          go_wp2
          go_quiet (fail)
          go_wp2
          go_ret
          exact ⟨rfl, Below.drewN hB _⟩
end Go.Proofs.Ytpfjkappgdpfbaa
