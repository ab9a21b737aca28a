/- partitionEqual over a value with Less and Swap. Conditions: the row's length is at most 2^40, the places lie in it. -/
import Derived.Test.YtjiiploleinobaaSrtH
import Derived.Sort.LotC
import Derived.Deep.DeepCutAuto
namespace Go.Proofs.Ytjiiploleinobaa
open Go.RowKit
open Go.Sort (swp scanUp scanDown partLoop partLoop_eq partition partEqLoop partEqLoop_eq partitionEqual)
set_option maxRecDepth 100000
set_option maxHeartbeats 8000000
set_option linter.unusedVariables false
section
variable {α : Type} [Inhabited α] {S : Value} {lt : α → α → Bool} {n g : Nat} {H : World → Array α → Prop}
theorem equal_any (X : Srt S lt n g H) (hn : n ≤ 1099511627776) (d : Array α) (a b p : Nat) (hp : a ≤ p) (hpb : p < b) (hb : b ≤ n) (w : World) (h : H w d) (hd : d.size = n) (m : Nat) (d' : Array α) (ho : partitionEqual lt d a b p = (m, d')) :
    Calls Try.prog 55 #[.iface 64 S, .int .i64 (a : Int), .int .i64 (b : Int), .int .i64 (p : Int)] w fun e w' => e = .returned (.int .i64 (m : Int)) ∧ St H g n w w' d' := by
  have mS : ∀ (w : World), (method 213 64 S "Less").run Try.prog w = .ok (81, S) w := fun w => by kernel_rfl
  have mT : ∀ (w : World), (method 213 64 S "Swap").run Try.prog w = .ok (82, S) w := fun w => by kernel_rfl
  have cS := less_calls S
  have cT := swap_calls S
  have st0 := St.start (g := g) (n := n) w d h hd
  have k0 := st0.swap X a p (by omega) (by omega)
  obtain ⟨D, hD⟩ : ∃ D, D = swp d a p := ⟨_, rfl⟩
  rw [← hD] at k0
  obtain ⟨A, hA⟩ : ∃ A, A = a + 1 := ⟨_, rfl⟩
  obtain ⟨B, hB⟩ : ∃ B, B = b - 1 := ⟨_, rfl⟩
  unfold partitionEqual at ho
  rw [← hD, ← hA, ← hB] at ho
  have HO := Lib.hid ho
  have a1 : a < A := by omega
  have a2 : A ≤ B + 1 := by omega
  have a3 : B < n := by omega
  have e1 : (a : Int) + 1 = A := by omega
  have e2 : (b : Int) - 1 = B := by omega
  clear st0 hD ho h hd hA hB
  go_enter Try.func55, Try.ntmps55
  go_upto_block 0 with (go_at_call 82; (with_reducible refine k0.mono ?_); rintro e w0 ⟨rfl, hs0⟩)
  go_wp2_with fail
  go_loopw [9, 10] (fun t9 t10 wr => ∃ (i j : Nat) (D' : Array α), t9 = .int .i64 (i : Int) ∧ t10 = .int .i64 (j : Int) ∧ a < i ∧ i ≤ j + 2 ∧ j < n ∧ Hid (partEqLoop lt a i j D' = (m, d')) ∧ St H g n w wr D') (fun t9 t10 _ => (intOf t10 + 3 - intOf t9).toNat)
  case atStart => exact ⟨A, B, _, rfl, rfl, a1, by omega, a3, HO, hs0⟩
  case round =>
    clear hs0 HO k0
    obtain ⟨i, j, D', rfl, rfl, b1, b2, b3, HL, hs5⟩ := hrel
    go_upto_block 2 with (fail)
    go_cut [9] (fun tv wx => ∃ xx : Nat, tv = .int .i64 (xx : Int) ∧ i ≤ xx ∧ xx ≤ j + 2 ∧ Hid (scanUp (fun x => !lt D'[a]! x) D' j i = xx) ∧ St H g n w wx D')
    case first =>
      go_wp2_with fail
      go_loopw [9] (fun tv wr => ∃ xx : Nat, tv = .int .i64 (xx : Int) ∧ i ≤ xx ∧ xx ≤ j + 2 ∧ Hid (scanUp (fun x => !lt D'[a]! x) D' j xx = scanUp (fun x => !lt D'[a]! x) D' j i) ∧ St H g n w wr D') (fun tv _ => ((j : Int) + 3 - intOf tv).toNat)
      case atStart => exact ⟨i, by first | rfl | (congr 1), Nat.le_refl _, by omega, Lib.hid rfl, hs5⟩
      case round =>
        clear hs5
        obtain ⟨xx, rfl, hi1, hi2, hF, hst⟩ := hrel
        by_cases hij : xx ≤ j
        · obtain ⟨q, hq⟩ : ∃ q, lt D'[a]! D'[xx]! = q := ⟨_, rfl⟩
          have k1 := hst.lessI X (a : Int) (xx : Int) a xx rfl rfl (by omega) (by omega) q hq
          have HQ := Lib.hid hq
          clear hq
          cases q with
          | false =>
            go_wp2_with (go_at_call 81; (with_reducible refine k1.mono ?_); rintro e wn ⟨rfl, hstn⟩)
            go_roundw
            case rel => exact ⟨xx + 1, by simp, by omega, by omega, Lib.hid (by have e := hF.out; rw [up_go _ _ _ _ hij (by simp [HQ.out])] at e; exact e), hstn⟩
            case measure => simp only [intOf]; omega
          | true =>
            go_wp2_with (go_at_call 81; (with_reducible refine k1.mono ?_); rintro e wn ⟨rfl, hstn⟩)
            go_meet
            case rel => exact ⟨xx, rfl, hi1, hi2, Lib.hid (by rw [← hF.out, up_end _ _ _ _ (.inr (by simp [HQ.out]))]), hstn⟩
        · go_wp2
          go_meet
          case rel => exact ⟨xx, rfl, hi1, hi2, Lib.hid (by rw [← hF.out, up_end _ _ _ _ (.inl hij)]), hst⟩
    case rest =>
    clear hs5
    obtain ⟨i2, rfl, i21, i22, i2H, hs6⟩ := hcut
    go_upto_block 4 with (fail)
    go_cut [10] (fun tv wx => ∃ yy : Nat, tv = .int .i64 (yy : Int) ∧ yy ≤ j ∧ i2 ≤ yy + 2 ∧ Hid (scanDown (fun x => lt D'[a]! x) D' i2 j = yy) ∧ St H g n w wx D')
    case first =>
      go_wp2_with fail
      go_loopw [10] (fun tv wr => ∃ yy : Nat, tv = .int .i64 (yy : Int) ∧ yy ≤ j ∧ i2 ≤ yy + 2 ∧ Hid (scanDown (fun x => lt D'[a]! x) D' i2 yy = scanDown (fun x => lt D'[a]! x) D' i2 j) ∧ St H g n w wr D') (fun tv _ => (intOf tv).toNat)
      case atStart => exact ⟨j, by first | rfl | (congr 1; omega), Nat.le_refl _, by omega, Lib.hid rfl, hs6⟩
      case round =>
        clear hs6
        obtain ⟨yy, rfl, hj1, hj2, hF, hst⟩ := hrel
        by_cases hij : i2 ≤ yy
        · obtain ⟨q, hq⟩ : ∃ q, lt D'[a]! D'[yy]! = q := ⟨_, rfl⟩
          have k1 := hst.lessI X (a : Int) (yy : Int) a yy rfl rfl (by omega) (by omega) q hq
          have HQ := Lib.hid hq
          clear hq
          cases q with
          | true =>
            go_wp2_with (go_at_call 81; (with_reducible refine k1.mono ?_); rintro e wn ⟨rfl, hstn⟩)
            go_roundw
            case rel => exact ⟨yy - 1, by congr 1; omega, by omega, by omega, Lib.hid (by have e := hF.out; rw [down_go _ _ _ _ hij (by omega) (by simp [HQ.out])] at e; exact e), hstn⟩
            case measure => simp only [intOf]; omega
          | false =>
            go_wp2_with (go_at_call 81; (with_reducible refine k1.mono ?_); rintro e wn ⟨rfl, hstn⟩)
            go_meet
            case rel => exact ⟨yy, rfl, hj1, hj2, Lib.hid (by rw [← hF.out, down_end _ _ _ _ (.inr (by simp [HQ.out]))]), hstn⟩
        · go_wp2
          go_meet
          case rel => exact ⟨yy, rfl, hj1, hj2, Lib.hid (by rw [← hF.out, down_end _ _ _ _ (.inl hij)]), hst⟩
    case rest =>
    clear hs6
    obtain ⟨j2, rfl, j21, j22, j2H, hs7⟩ := hcut
    have E := HL.out
    rw [partEqLoop_eq, i2H.out, j2H.out] at E
    by_cases hij2 : i2 > j2
    · rw [if_pos hij2] at E
      injection E with E1 E2
      subst E1 E2
      clear HL i2H j2H
      go_wp2
      go_ret
      exact ⟨rfl, hs7⟩
    · rw [if_neg hij2] at E
      have HE := Lib.hid E
      have k5 := hs7.swap X i2 j2 (by omega) (by omega)
      clear HL i2H j2H E
      go_wp2_with (go_at_call 82; (with_reducible refine k5.mono ?_); rintro e wn ⟨rfl, hsn⟩)
      go_roundw
      case rel => exact ⟨i2 + 1, j2 - 1, _, by simp, by congr 1; omega, by omega, by omega, by omega, HE, hsn⟩
      case measure => simp only [intOf]; omega
end
end Go.Proofs.Ytjiiploleinobaa
