/- siftDown, heapSort, reverseRange over a value with Less and Swap. Conditions: the row's length is at most 2^40, the places lie in it. -/
import Derived.Test.YtjiiploleinobaaSrtA
namespace Go.Proofs.Ytjiiploleinobaa
open Go.RowKit
open Go.Sort (swp siftDown heapBuild heapPop heapSort reverseLoop reverseRange)
set_option maxRecDepth 100000
set_option maxHeartbeats 4000000
set_option linter.unusedVariables false
section
variable {α : Type} [Inhabited α] {S : Value} {lt : α → α → Bool} {n g : Nat} {H : World → Array α → Prop}
theorem sift_eq (lt : α → α → Bool) (hi first r c : Nat) (d : Array α) (q2 : Bool) (h1 : ¬ hi ≤ 2 * r + 1)
    (hc : (2 * r + 2 < hi ∧ lt d[first + (2 * r + 1)]! d[first + (2 * r + 1) + 1]! = true ∧ c = 2 * r + 2) ∨ ((hi ≤ 2 * r + 2 ∨ lt d[first + (2 * r + 1)]! d[first + (2 * r + 1) + 1]! = false) ∧ c = 2 * r + 1))
    (h2 : lt d[first + r]! d[first + c]! = q2) : siftDown lt hi first r d = if q2 = true then siftDown lt hi first c (swp d (first + r) (first + c)) else d := by
  rw [siftDown]
  rw [dif_neg (by omega)]
  rcases hc with ⟨g1, g2, rfl⟩ | ⟨g1, rfl⟩
  · rw [if_pos (by simp [g1, g2]), h2]
    cases q2 with
    | false => simp
    | true => simp [g1]
  · rw [if_neg (by rcases g1 with g1 | g1 <;> simp [g1]; omega), h2]
    cases q2 <;> simp
theorem sift_any (X : Srt S lt n g H) (hn : n ≤ 1099511627776) (d : Array α) (lo hi first : Nat) (hl : lo ≤ n) (hf : first + hi ≤ n) (w : World) (h : H w d) (hd : d.size = n) :
    Calls Try.prog 57 #[.iface 64 S, .int .i64 (lo : Int), .int .i64 (hi : Int), .int .i64 (first : Int)] w fun e w' => e = .returned (.tuple #[]) ∧ St H g n w w' (siftDown lt hi first lo d) := by
  have mS : ∀ (w : World), (method 213 64 S "Less").run Try.prog w = .ok (81, S) w := fun w => by kernel_rfl
  have mT : ∀ (w : World), (method 213 64 S "Swap").run Try.prog w = .ok (82, S) w := fun w => by kernel_rfl
  have cS := less_calls S
  have cT := swap_calls S
  have st0 := St.start (g := g) (n := n) w d h hd
  have Hd := Lib.hid hd
  clear h hd
  go_enter Try.func57, Try.ntmps57
  go_wp2
  go_loopw [8] (fun t8 wr => ∃ (r : Nat) (d' : Array α), t8 = .int .i64 (r : Int) ∧ r ≤ n ∧ Hid (siftDown lt hi first r d' = siftDown lt hi first lo d) ∧ St H g n w wr d') (fun t8 _ => hi - (intOf t8).toNat)
  case atStart => exact ⟨lo, d, rfl, hl, Lib.hid rfl, st0⟩
  case round =>
    clear st0
    obtain ⟨r, d', rfl, hr, hE, hst⟩ := hrel
    by_cases h1 : hi ≤ 2 * r + 1
    · go_wp2
      go_end0
      refine ⟨rfl, ?_⟩
      have e := hE.out
      rw [siftDown, dif_pos h1] at e
      rw [← e]; exact hst
    by_cases h2 : 2 * r + 2 < hi
    · obtain ⟨q1, hq1⟩ : ∃ q, lt d'[first + (2 * r + 1)]! d'[first + (2 * r + 1) + 1]! = q := ⟨_, rfl⟩
      have k1 := hst.lessI X ((first : Int) + (2 * (r : Int) + 1)) ((first : Int) + (2 * (r : Int) + 1) + 1) (first + (2 * r + 1)) (first + (2 * r + 1) + 1) (by omega) (by omega) (by omega) (by omega) q1 hq1
      cases q1 with
      | true =>
        obtain ⟨q2, hq2⟩ : ∃ q, lt d'[first + r]! d'[first + (2 * r + 2)]! = q := ⟨_, rfl⟩
        have F := sift_eq lt hi first r (2 * r + 2) d' q2 h1 (.inl ⟨h2, hq1, rfl⟩) hq2
        have HF := Lib.hid F
        have HQ := Lib.hid hq2
        clear F hq1 hq2
        cases q2 with
        | true =>
          go_wp2_with (first
            | (go_at_call 81; (with_reducible refine k1.mono ?_); rintro e w1 ⟨rfl, hst1⟩
               have k2 := hst1.lessI X ((first : Int) + (r : Int)) ((first : Int) + (2 * (r : Int) + 1 + 1)) (first + r) (first + (2 * r + 2)) (by omega) (by omega) (by omega) (by omega) true HQ.out)
            | (go_at_call 81; (with_reducible refine k2.mono ?_); rintro e w2 ⟨rfl, hst2⟩
               have k3 := hst2.swapI X ((first : Int) + (r : Int)) ((first : Int) + (2 * (r : Int) + 1 + 1)) (first + r) (first + (2 * r + 2)) (by omega) (by omega) (by omega) (by omega))
            | (go_at_call 82; (with_reducible refine k3.mono ?_); rintro e w3 ⟨rfl, hst3⟩))
          go_roundw
          case rel => exact ⟨2 * r + 2, _, by congr 1, by omega, Lib.hid (by have e := hE.out; rw [HF.out] at e; exact e), hst3⟩
          case measure => simp [intOf]; omega
        | false =>
          go_wp2_with (first
            | (go_at_call 81; (with_reducible refine k1.mono ?_); rintro e w1 ⟨rfl, hst1⟩
               have k2 := hst1.lessI X ((first : Int) + (r : Int)) ((first : Int) + (2 * (r : Int) + 1 + 1)) (first + r) (first + (2 * r + 2)) (by omega) (by omega) (by omega) (by omega) false HQ.out)
            | (go_at_call 81; (with_reducible refine k2.mono ?_); rintro e w2 ⟨rfl, hst2⟩))
          (try simp only [Exit.inBlock, Exit.then])
          refine bodyPost_ret (results_none rfl _ _ _) rfl ?_
          exact ⟨rfl, by have e := hE.out; rw [HF.out] at e; rw [← e]; exact hst2⟩
      | false =>
        obtain ⟨q2, hq2⟩ : ∃ q, lt d'[first + r]! d'[first + (2 * r + 1)]! = q := ⟨_, rfl⟩
        have F := sift_eq lt hi first r (2 * r + 1) d' q2 h1 (.inr ⟨.inr hq1, rfl⟩) hq2
        have HF := Lib.hid F
        have HQ := Lib.hid hq2
        clear F hq1 hq2
        cases q2 with
        | true =>
          go_wp2_with (first
            | (go_at_call 81; (with_reducible refine k1.mono ?_); rintro e w1 ⟨rfl, hst1⟩
               have k2 := hst1.lessI X ((first : Int) + (r : Int)) ((first : Int) + (2 * (r : Int) + 1)) (first + r) (first + (2 * r + 1)) (by omega) (by omega) (by omega) (by omega) true HQ.out)
            | (go_at_call 81; (with_reducible refine k2.mono ?_); rintro e w2 ⟨rfl, hst2⟩
               have k3 := hst2.swapI X ((first : Int) + (r : Int)) ((first : Int) + (2 * (r : Int) + 1)) (first + r) (first + (2 * r + 1)) (by omega) (by omega) (by omega) (by omega))
            | (go_at_call 82; (with_reducible refine k3.mono ?_); rintro e w3 ⟨rfl, hst3⟩))
          go_roundw
          case rel => exact ⟨2 * r + 1, _, by congr 1, by omega, Lib.hid (by have e := hE.out; rw [HF.out] at e; exact e), hst3⟩
          case measure => simp [intOf]; omega
        | false =>
          go_wp2_with (first
            | (go_at_call 81; (with_reducible refine k1.mono ?_); rintro e w1 ⟨rfl, hst1⟩
               have k2 := hst1.lessI X ((first : Int) + (r : Int)) ((first : Int) + (2 * (r : Int) + 1)) (first + r) (first + (2 * r + 1)) (by omega) (by omega) (by omega) (by omega) false HQ.out)
            | (go_at_call 81; (with_reducible refine k2.mono ?_); rintro e w2 ⟨rfl, hst2⟩))
          (try simp only [Exit.inBlock, Exit.then])
          refine bodyPost_ret (results_none rfl _ _ _) rfl ?_
          exact ⟨rfl, by have e := hE.out; rw [HF.out] at e; rw [← e]; exact hst2⟩
    · obtain ⟨q2, hq2⟩ : ∃ q, lt d'[first + r]! d'[first + (2 * r + 1)]! = q := ⟨_, rfl⟩
      have F := sift_eq lt hi first r (2 * r + 1) d' q2 h1 (.inr ⟨.inl (by omega), rfl⟩) hq2
      have k2 := hst.lessI X ((first : Int) + (r : Int)) ((first : Int) + (2 * (r : Int) + 1)) (first + r) (first + (2 * r + 1)) (by omega) (by omega) (by omega) (by omega) q2 hq2
      have HF := Lib.hid F
      clear F hq2
      cases q2 with
      | true =>
        go_wp2_with (first
          | (go_at_call 81; (with_reducible refine k2.mono ?_); rintro e w2 ⟨rfl, hst2⟩
             have k3 := hst2.swapI X ((first : Int) + (r : Int)) ((first : Int) + (2 * (r : Int) + 1)) (first + r) (first + (2 * r + 1)) (by omega) (by omega) (by omega) (by omega))
          | (go_at_call 82; (with_reducible refine k3.mono ?_); rintro e w3 ⟨rfl, hst3⟩))
        go_roundw
        case rel => exact ⟨2 * r + 1, _, by congr 1, by omega, Lib.hid (by have e := hE.out; rw [HF.out] at e; exact e), hst3⟩
        case measure => simp [intOf]; omega
      | false =>
        go_wp2_with (first
          | (go_at_call 81; (with_reducible refine k2.mono ?_); rintro e w2 ⟨rfl, hst2⟩))
        (try simp only [Exit.inBlock, Exit.then])
        refine bodyPost_ret (results_none rfl _ _ _) rfl ?_
        exact ⟨rfl, by have e := hE.out; rw [HF.out] at e; rw [← e]; exact hst2⟩
end
end Go.Proofs.Ytjiiploleinobaa
