/- heapSort, reverseRange over a value with Less and Swap. Conditions: the row's length is at most 2^40, the places lie in it. -/
import Derived.Test.YtjiiploleinobaaSrtB
namespace Go.Proofs.Ytjiiploleinobaa
open Go.RowKit
open Go.Sort (swp siftDown heapBuild heapPop heapSort reverseLoop reverseRange)
set_option maxRecDepth 100000
set_option maxHeartbeats 4000000
set_option linter.unusedVariables false
section
variable {α : Type} [Inhabited α] {S : Value} {lt : α → α → Bool} {n g : Nat} {H : World → Array α → Prop}
def prd : Nat → Int
  | 0 => -1
  | m + 1 => m
theorem St.sift (X : Srt S lt n g H) (hn : n ≤ 1099511627776) {w W : World} {d : Array α} (h : St H g n w W d) (lo hi first : Nat) (z y x : Int) (hz : z = lo) (hy : y = hi) (hx : x = first) (hl : lo ≤ n) (hf : first + hi ≤ n) :
    Calls Try.prog 57 #[.iface 64 S, .int .i64 z, .int .i64 y, .int .i64 x] W fun e w' => e = .returned (.tuple #[]) ∧ St H g n w w' (siftDown lt hi first lo d) := by
  subst hz hy hx
  exact (sift_any X hn d lo hi first hl hf W h.holds h.size).mono fun _ _ ⟨he, k⟩ => ⟨he, h.trans k⟩
theorem heap_any (X : Srt S lt n g H) (hn : n ≤ 1099511627776) (d : Array α) (a b : Nat) (hab : a < b) (hb : b ≤ n) (w : World) (h : H w d) (hd : d.size = n) :
    Calls Try.prog 50 #[.iface 64 S, .int .i64 (a : Int), .int .i64 (b : Int)] w fun e w' => e = .returned (.tuple #[]) ∧ St H g n w w' (heapSort lt d a b) := by
  have mT : ∀ (w : World), (method 213 64 S "Swap").run Try.prog w = .ok (82, S) w := fun w => by kernel_rfl
  have cT := swap_calls S
  have st0 := St.start (g := g) (n := n) w d h hd
  have Hd := Lib.hid hd
  obtain ⟨hi, hhi⟩ : ∃ hi, hi = b - a := ⟨_, rfl⟩
  obtain ⟨K, hK⟩ : ∃ K, K = (hi - 1) / 2 + 1 := ⟨_, rfl⟩
  have hE : heapSort lt d a b = heapPop lt a hi (heapBuild lt hi a K d) := by rw [heapSort, hK, hhi]
  have HE := Lib.hid hE
  have e1 : (b : Int) - a = hi := by omega
  have P1 := Lib.hid (show prd hi = (hi : Int) - 1 by cases hi with
    | zero => omega
    | succ m => simp [prd])
  have P2 := Lib.hid (show prd K = ((hi : Int) - 1) / 2 by rw [hK]; simp only [prd]; omega)
  have hK2 : K ≤ hi := by omega
  have h0 : 1 ≤ hi := by omega
  have hB : a + hi ≤ n := by omega
  clear h hd hE hhi hK
  go_enter Try.func50, Try.ntmps50
  go_wp2
  go_loopw [9] (fun t9 wr => ∃ (k : Nat) (d' : Array α), t9 = .int .i64 (prd k) ∧ k ≤ hi ∧ Hid (heapBuild lt hi a k d' = heapBuild lt hi a K d) ∧ St H g n w wr d') (fun t9 _ => ((intOf t9) + 1).toNat)
  case atStart => exact ⟨K, d, by rw [P2.out], hK2, Lib.hid rfl, st0⟩
  case round =>
    clear st0
    obtain ⟨k, d', rfl, hk, hF, hst⟩ := hrel
    cases k with
    | succ m =>
      simp only [prd]
      have k1 := hst.sift X hn m hi a (m : Int) (hi : Int) (a : Int) rfl rfl rfl (by omega) hB
      go_wp2_with (go_at_call 57; (with_reducible refine k1.mono ?_); rintro e w1 ⟨rfl, hst1⟩)
      go_roundw
      case rel => exact ⟨m, _, by congr 1; cases m with
        | zero => rfl
        | succ m => simp, by omega, Lib.hid (by have e := hF.out; rw [heapBuild] at e; exact e), hst1⟩
      case measure => show ((m : Int) - 1 + 1).toNat < ((m : Int) + 1).toNat; omega
    | zero =>
      simp only [prd]
      go_wp2
      go_loopw [10] (fun t10 wr => ∃ (k : Nat) (d' : Array α), t10 = .int .i64 (prd k) ∧ k ≤ hi ∧ Hid (heapPop lt a k d' = heapSort lt d a b) ∧ St H g n w wr d') (fun t10 _ => ((intOf t10) + 1).toNat)
      case atStart => exact ⟨hi, d', by rw [P1.out], Nat.le_refl _, Lib.hid (by rw [HE.out, ← hF.out]; rfl), hst⟩
      case round =>
        clear hst
        obtain ⟨k, d'', rfl, hk, hG, hst⟩ := hrel
        cases k with
        | succ m =>
          simp only [prd]
          have k1 := hst.swapI X (a : Int) ((a : Int) + (m : Int)) a (a + m) rfl (by omega) (by omega) (by omega)
          go_wp2_with (first
            | (go_at_call 82; (with_reducible refine k1.mono ?_); rintro e w1 ⟨rfl, hst1⟩
               have k2 := hst1.sift X hn 0 m a 0 (m : Int) (a : Int) rfl rfl rfl (by omega) (by omega))
            | (go_at_call 57; (with_reducible refine k2.mono ?_); rintro e w2 ⟨rfl, hst2⟩))
          go_roundw
          case rel => exact ⟨m, _, by congr 1; cases m with
            | zero => rfl
            | succ m => simp, by omega, Lib.hid (by have e := hG.out; rw [heapPop] at e; exact e), hst2⟩
          case measure => show ((m : Int) - 1 + 1).toNat < ((m : Int) + 1).toNat; omega
        | zero =>
          simp only [prd]
          go_wp2
          go_end0
          exact ⟨rfl, by have e := hG.out; rw [heapPop] at e; rw [← e]; exact hst⟩
theorem reverse_any (X : Srt S lt n g H) (hn : n ≤ 1099511627776) (d : Array α) (a b : Nat) (hab : a < b) (hb : b ≤ n) (w : World) (h : H w d) (hd : d.size = n) :
    Calls Try.prog 53 #[.iface 64 S, .int .i64 (a : Int), .int .i64 (b : Int)] w fun e w' => e = .returned (.tuple #[]) ∧ St H g n w w' (reverseRange d a b) := by
  have mT : ∀ (w : World), (method 213 64 S "Swap").run Try.prog w = .ok (82, S) w := fun w => by kernel_rfl
  have cT := swap_calls S
  have st0 := St.start (g := g) (n := n) w d h hd
  have Hd := Lib.hid hd
  clear h hd
  go_enter Try.func53, Try.ntmps53
  go_wp2
  go_loopw [6, 7] (fun t6 t7 wr => ∃ (i j : Nat) (d' : Array α), t6 = .int .i64 (i : Int) ∧ t7 = .int .i64 (j : Int) ∧ a ≤ i ∧ i ≤ n ∧ j < b ∧ Hid (reverseLoop i j d' = reverseRange d a b) ∧ St H g n w wr d') (fun t6 t7 _ => ((intOf t7) - (intOf t6)).toNat)
  case atStart => exact ⟨a, b - 1, d, rfl, by congr 1; omega, Nat.le_refl _, by omega, by omega, Lib.hid rfl, st0⟩
  case round =>
    clear st0
    obtain ⟨i, j, d', rfl, rfl, hi, hi2, hj, hF, hst⟩ := hrel
    by_cases hij : i < j
    · have k1 := hst.swapI X (i : Int) (j : Int) i j rfl rfl (by omega) (by omega)
      go_wp2_with (go_at_call 82; (with_reducible refine k1.mono ?_); rintro e w1 ⟨rfl, hst1⟩)
      go_roundw
      case rel => exact ⟨i + 1, j - 1, _, by simp, by congr 1; omega, by omega, by omega, by omega, Lib.hid (by have e := hF.out; rw [reverseLoop, if_pos hij] at e; exact e), hst1⟩
      case measure => simp only [intOf]; omega
    · go_wp2
      go_end0
      exact ⟨rfl, by have e := hF.out; rw [reverseLoop, if_neg hij] at e; rw [← e]; exact hst⟩
end
end Go.Proofs.Ytjiiploleinobaa
