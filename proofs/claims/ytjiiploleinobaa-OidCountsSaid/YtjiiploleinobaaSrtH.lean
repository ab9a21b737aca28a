/- partition over a value with Less and Swap. Conditions: the row's length is at most 2^40, the places lie in it. -/
import Derived.Test.YtjiiploleinobaaSrtA
import Derived.Sort.LotC
import Derived.Deep.DeepCutAuto
namespace Go.Proofs.Ytjiiploleinobaa
open Go.RowKit
open Go.Sort (swp scanUp scanDown partLoop partLoop_eq partition partEqLoop partEqLoop_eq partitionEqual)
set_option maxRecDepth 100000
set_option maxHeartbeats 8000000
set_option linter.unusedVariables false
section
variable {α : Type} [Inhabited α] {S : Value} {lt : α → α → Bool} {n g : Nat} {H : World → Array α → Prop}
theorem up_go (p : α → Bool) (d : Array α) (j i : Nat) (h : i ≤ j) (hp : p d[i]! = true) : scanUp p d j i = scanUp p d j (i + 1) := by
  rw [scanUp, if_pos (by simp [h, hp])]
theorem up_end (p : α → Bool) (d : Array α) (j i : Nat) (h : ¬ i ≤ j ∨ p d[i]! = false) : scanUp p d j i = i := by
  rw [scanUp, if_neg (by rcases h with h | h <;> simp [h])]
theorem down_go (p : α → Bool) (d : Array α) (i j : Nat) (h : i ≤ j) (h0 : 0 < j) (hp : p d[j]! = true) : scanDown p d i j = scanDown p d i (j - 1) := by
  obtain ⟨m, rfl⟩ : ∃ m, j = m + 1 := ⟨j - 1, by omega⟩
  rw [scanDown, if_pos (by simp [h, hp]), Nat.add_sub_cancel]
theorem down_end (p : α → Bool) (d : Array α) (i j : Nat) (h : ¬ i ≤ j ∨ p d[j]! = false) : scanDown p d i j = j := by
  cases j with
  | zero => rfl
  | succ m => rw [scanDown, if_neg (by rcases h with h | h <;> simp [h])]
theorem part_any (X : Srt S lt n g H) (hn : n ≤ 1099511627776) (d : Array α) (a b p : Nat) (hp : a ≤ p) (hpb : p < b) (hb : b ≤ n) (w : World) (h : H w d) (hd : d.size = n) (m : Nat) (q0 : Bool) (d' : Array α) (ho : partition lt d a b p = (m, q0, d')) :
    Calls Try.prog 56 #[.iface 64 S, .int .i64 (a : Int), .int .i64 (b : Int), .int .i64 (p : Int)] w fun e w' => e = .returned (.tuple #[.int .i64 (m : Int), .bool q0]) ∧ St H g n w w' d' := by
  have mS : ∀ (w : World), (method 213 64 S "Less").run Try.prog w = .ok (81, S) w := fun w => by kernel_rfl
  have mT : ∀ (w : World), (method 213 64 S "Swap").run Try.prog w = .ok (82, S) w := fun w => by kernel_rfl
  have cS := less_calls S
  have cT := swap_calls S
  have st0 := St.start (g := g) (n := n) w d h hd
  have k0 := st0.swap X a p (by omega) (by omega)
  obtain ⟨D, hD⟩ : ∃ D, D = swp d a p := ⟨_, rfl⟩
  rw [← hD] at k0
  obtain ⟨A, hA⟩ : ∃ A, A = a + 1 := ⟨_, rfl⟩
  obtain ⟨B, hB⟩ : ∃ B, B = b - 1 := ⟨_, rfl⟩
  unfold partition at ho
  simp only at ho
  rw [← hD, ← hA, ← hB] at ho
  have HO := Lib.hid ho
  have HA := Lib.hid hA
  have a1 : a < A := by omega
  have a2 : A ≤ B + 1 := by omega
  have a3 : B < n := by omega
  have e1 : (a : Int) + 1 = A := by omega
  have e2 : (b : Int) - 1 = B := by omega
  clear st0 hD ho h hd hA hB
  go_enter Try.func56, Try.ntmps56
  go_upto_block 0 with (go_at_call 82; (with_reducible refine k0.mono ?_); rintro e w0 ⟨rfl, hs0⟩)
  go_cut [10] from 12 (fun tv wx => ∃ xx : Nat, tv = .int .i64 (xx : Int) ∧ A ≤ xx ∧ xx ≤ B + 2 ∧ Hid (scanUp (fun x => lt x D[a]!) D B A = xx) ∧ St H g n w wx D)
  case first =>
    go_wp2_with fail
    go_loopw [10] (fun tv wr => ∃ xx : Nat, tv = .int .i64 (xx : Int) ∧ A ≤ xx ∧ xx ≤ B + 2 ∧ Hid (scanUp (fun x => lt x D[a]!) D B xx = scanUp (fun x => lt x D[a]!) D B A) ∧ St H g n w wr D) (fun tv _ => ((B : Int) + 3 - intOf tv).toNat)
    case atStart => exact ⟨A, by first | rfl | (congr 1), Nat.le_refl _, by omega, Lib.hid rfl, hs0⟩
    case round =>
      clear hs0
      obtain ⟨xx, rfl, hi1, hi2, hF, hst⟩ := hrel
      by_cases hij : xx ≤ B
      · obtain ⟨q, hq⟩ : ∃ q, lt D[xx]! D[a]! = q := ⟨_, rfl⟩
        have k1 := hst.lessI X (xx : Int) (a : Int) xx a rfl rfl (by omega) (by omega) q hq
        have HQ := Lib.hid hq
        clear hq
        cases q with
        | true =>
          go_wp2_with (go_at_call 81; (with_reducible refine k1.mono ?_); rintro e wn ⟨rfl, hstn⟩)
          go_roundw
          case rel => exact ⟨xx + 1, by simp, by omega, by omega, Lib.hid (by have e := hF.out; rw [up_go _ _ _ _ hij (by simp [HQ.out])] at e; exact e), hstn⟩
          case measure => simp only [intOf]; omega
        | false =>
          go_wp2_with (go_at_call 81; (with_reducible refine k1.mono ?_); rintro e wn ⟨rfl, hstn⟩)
          go_meet
          case rel => exact ⟨xx, rfl, hi1, hi2, Lib.hid (by rw [← hF.out, up_end _ _ _ _ (.inr (by simp [HQ.out]))]), hstn⟩
      · go_wp2
        go_meet
        case rel => exact ⟨xx, rfl, hi1, hi2, Lib.hid (by rw [← hF.out, up_end _ _ _ _ (.inl hij)]), hst⟩
  case rest =>
  clear hs0
  obtain ⟨i1, rfl, i11, i12, i1H, hs1⟩ := hcut
  go_upto_block 2 with (fail)
  go_cut [11] from 12 (fun tv wx => ∃ yy : Nat, tv = .int .i64 (yy : Int) ∧ yy ≤ B ∧ i1 ≤ yy + 2 ∧ Hid (scanDown (fun x => !lt x D[a]!) D i1 B = yy) ∧ St H g n w wx D)
  case first =>
    go_wp2_with fail
    go_loopw [11] (fun tv wr => ∃ yy : Nat, tv = .int .i64 (yy : Int) ∧ yy ≤ B ∧ i1 ≤ yy + 2 ∧ Hid (scanDown (fun x => !lt x D[a]!) D i1 yy = scanDown (fun x => !lt x D[a]!) D i1 B) ∧ St H g n w wr D) (fun tv _ => (intOf tv).toNat)
    case atStart => exact ⟨B, by first | rfl | (congr 1; omega), Nat.le_refl _, by omega, Lib.hid rfl, hs1⟩
    case round =>
      clear hs1
      obtain ⟨yy, rfl, hj1, hj2, hF, hst⟩ := hrel
      by_cases hij : i1 ≤ yy
      · obtain ⟨q, hq⟩ : ∃ q, lt D[yy]! D[a]! = q := ⟨_, rfl⟩
        have k1 := hst.lessI X (yy : Int) (a : Int) yy a rfl rfl (by omega) (by omega) q hq
        have HQ := Lib.hid hq
        clear hq
        cases q with
        | false =>
          go_wp2_with (go_at_call 81; (with_reducible refine k1.mono ?_); rintro e wn ⟨rfl, hstn⟩)
          go_roundw
          case rel => exact ⟨yy - 1, by congr 1; omega, by omega, by omega, Lib.hid (by have e := hF.out; rw [down_go _ _ _ _ hij (by omega) (by simp [HQ.out])] at e; exact e), hstn⟩
          case measure => simp only [intOf]; omega
        | true =>
          go_wp2_with (go_at_call 81; (with_reducible refine k1.mono ?_); rintro e wn ⟨rfl, hstn⟩)
          go_meet
          case rel => exact ⟨yy, rfl, hj1, hj2, Lib.hid (by rw [← hF.out, down_end _ _ _ _ (.inr (by simp [HQ.out]))]), hstn⟩
      · go_wp2
        go_meet
        case rel => exact ⟨yy, rfl, hj1, hj2, Lib.hid (by rw [← hF.out, down_end _ _ _ _ (.inl hij)]), hst⟩
  case rest =>
  clear hs1
  obtain ⟨j1, rfl, j11, j12, j1H, hs2⟩ := hcut
  by_cases hij : i1 > j1
  · have k3 := hs2.swap X j1 a (by omega) (by omega)
    have E := HO.out
    rw [i1H.out, j1H.out, if_pos hij] at E
    injection E with E1 E2
    injection E2 with E2 E3
    subst E1 E2 E3
    clear HO i1H j1H
    go_wp2_with (go_at_call 82; (with_reducible refine k3.mono ?_); rintro e wn ⟨rfl, hsn⟩)
    go_ret2
    exact ⟨rfl, hsn⟩
  obtain ⟨r1, r2, hr⟩ : ∃ r1 r2, partLoop lt a (i1 + 1) (j1 - 1) (swp D i1 j1) = (r1, r2) := ⟨_, _, rfl⟩
  have E := HO.out
  rw [i1H.out, j1H.out, if_neg hij, hr] at E
  injection E with E1 E2
  injection E2 with E2 E3
  simp only at E1 E3
  subst E1 E2 E3
  have k4 := hs2.swap X i1 j1 (by omega) (by omega)
  have HR := Lib.hid hr
  clear HO i1H j1H hr hs2
  go_upto_block 4 with (go_at_call 82; (with_reducible refine k4.mono ?_); rintro e w4 ⟨rfl, hs4⟩)
  go_wp2_with fail
  go_loopw [10, 11] (fun t10 t11 wr => ∃ (i j : Nat) (D' : Array α), t10 = .int .i64 (i : Int) ∧ t11 = .int .i64 (j : Int) ∧ a < i ∧ i ≤ j + 2 ∧ j < n ∧ Hid (partLoop lt a i j D' = (r1, r2)) ∧ St H g n w wr D') (fun t10 t11 _ => (intOf t11 + 3 - intOf t10).toNat)
  case atStart => exact ⟨i1 + 1, j1 - 1, _, by simp, by congr 1; omega, by omega, by omega, by omega, HR, hs4⟩
  case round =>
    clear hs4 HR k0 k4
    obtain ⟨i, j, D', rfl, rfl, b1, b2, b3, HL, hs5⟩ := hrel
    go_upto_block 6 with (fail)
    go_cut [10] (fun tv wx => ∃ xx : Nat, tv = .int .i64 (xx : Int) ∧ i ≤ xx ∧ xx ≤ j + 2 ∧ Hid (scanUp (fun x => lt x D'[a]!) D' j i = xx) ∧ St H g n w wx D')
    case first =>
      go_wp2_with fail
      go_loopw [10] (fun tv wr => ∃ xx : Nat, tv = .int .i64 (xx : Int) ∧ i ≤ xx ∧ xx ≤ j + 2 ∧ Hid (scanUp (fun x => lt x D'[a]!) D' j xx = scanUp (fun x => lt x D'[a]!) D' j i) ∧ St H g n w wr D') (fun tv _ => ((j : Int) + 3 - intOf tv).toNat)
      case atStart => exact ⟨i, by first | rfl | (congr 1), Nat.le_refl _, by omega, Lib.hid rfl, hs5⟩
      case round =>
        clear hs5
        obtain ⟨xx, rfl, hi1, hi2, hF, hst⟩ := hrel
        by_cases hij : xx ≤ j
        · obtain ⟨q, hq⟩ : ∃ q, lt D'[xx]! D'[a]! = q := ⟨_, rfl⟩
          have k1 := hst.lessI X (xx : Int) (a : Int) xx a rfl rfl (by omega) (by omega) q hq
          have HQ := Lib.hid hq
          clear hq
          cases q with
          | true =>
            go_wp2_with (go_at_call 81; (with_reducible refine k1.mono ?_); rintro e wn ⟨rfl, hstn⟩)
            go_roundw
            case rel => exact ⟨xx + 1, by simp, by omega, by omega, Lib.hid (by have e := hF.out; rw [up_go _ _ _ _ hij (by simp [HQ.out])] at e; exact e), hstn⟩
            case measure => simp only [intOf]; omega
          | false =>
            go_wp2_with (go_at_call 81; (with_reducible refine k1.mono ?_); rintro e wn ⟨rfl, hstn⟩)
            go_meet
            case rel => exact ⟨xx, rfl, hi1, hi2, Lib.hid (by rw [← hF.out, up_end _ _ _ _ (.inr (by simp [HQ.out]))]), hstn⟩
        · go_wp2
          go_meet
          case rel => exact ⟨xx, rfl, hi1, hi2, Lib.hid (by rw [← hF.out, up_end _ _ _ _ (.inl hij)]), hst⟩
    case rest =>
    clear hs5
    obtain ⟨i2, rfl, i21, i22, i2H, hs6⟩ := hcut
    go_upto_block 8 with (fail)
    go_cut [11] (fun tv wx => ∃ yy : Nat, tv = .int .i64 (yy : Int) ∧ yy ≤ j ∧ i2 ≤ yy + 2 ∧ Hid (scanDown (fun x => !lt x D'[a]!) D' i2 j = yy) ∧ St H g n w wx D')
    case first =>
      go_wp2_with fail
      go_loopw [11] (fun tv wr => ∃ yy : Nat, tv = .int .i64 (yy : Int) ∧ yy ≤ j ∧ i2 ≤ yy + 2 ∧ Hid (scanDown (fun x => !lt x D'[a]!) D' i2 yy = scanDown (fun x => !lt x D'[a]!) D' i2 j) ∧ St H g n w wr D') (fun tv _ => (intOf tv).toNat)
      case atStart => exact ⟨j, by first | rfl | (congr 1; omega), Nat.le_refl _, by omega, Lib.hid rfl, hs6⟩
      case round =>
        clear hs6
        obtain ⟨yy, rfl, hj1, hj2, hF, hst⟩ := hrel
        by_cases hij : i2 ≤ yy
        · obtain ⟨q, hq⟩ : ∃ q, lt D'[yy]! D'[a]! = q := ⟨_, rfl⟩
          have k1 := hst.lessI X (yy : Int) (a : Int) yy a rfl rfl (by omega) (by omega) q hq
          have HQ := Lib.hid hq
          clear hq
          cases q with
          | false =>
            go_wp2_with (go_at_call 81; (with_reducible refine k1.mono ?_); rintro e wn ⟨rfl, hstn⟩)
            go_roundw
            case rel => exact ⟨yy - 1, by congr 1; omega, by omega, by omega, Lib.hid (by have e := hF.out; rw [down_go _ _ _ _ hij (by omega) (by simp [HQ.out])] at e; exact e), hstn⟩
            case measure => simp only [intOf]; omega
          | true =>
            go_wp2_with (go_at_call 81; (with_reducible refine k1.mono ?_); rintro e wn ⟨rfl, hstn⟩)
            go_meet
            case rel => exact ⟨yy, rfl, hj1, hj2, Lib.hid (by rw [← hF.out, down_end _ _ _ _ (.inr (by simp [HQ.out]))]), hstn⟩
        · go_wp2
          go_meet
          case rel => exact ⟨yy, rfl, hj1, hj2, Lib.hid (by rw [← hF.out, down_end _ _ _ _ (.inl hij)]), hst⟩
    case rest =>
    clear hs6
    obtain ⟨j2, rfl, j21, j22, j2H, hs7⟩ := hcut
    have E := HL.out
    rw [partLoop_eq, i2H.out, j2H.out] at E
    by_cases hij2 : i2 > j2
    · rw [if_pos hij2] at E
      injection E with E1 E2
      subst E1 E2
      have k5 := hs7.swap X j2 a (by omega) (by omega)
      clear HL i2H j2H
      go_wp2_with (go_at_call 82; (with_reducible refine k5.mono ?_); rintro e wn ⟨rfl, hsn⟩)
      go_ret2
      exact ⟨rfl, hsn⟩
    · rw [if_neg hij2] at E
      have HE := Lib.hid E
      have k5 := hs7.swap X i2 j2 (by omega) (by omega)
      clear HL i2H j2H E
      go_wp2_with (go_at_call 82; (with_reducible refine k5.mono ?_); rintro e wn ⟨rfl, hsn⟩)
      go_roundw
      case rel => exact ⟨i2 + 1, j2 - 1, _, by simp, by congr 1; omega, by omega, by omega, by omega, HE, hsn⟩
      case measure => simp only [intOf]; omega
end
end Go.Proofs.Ytjiiploleinobaa
