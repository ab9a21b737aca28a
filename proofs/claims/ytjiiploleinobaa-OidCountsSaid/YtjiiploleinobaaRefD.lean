/- Same: are two rows of names the same? Conditions: twenty bytes each, fewer than 256 names. -/
import Derived.Test.YtjiiploleinobaaRefC
namespace Go.Proofs.Ytjiiploleinobaa
open Go.RowKit
set_option maxRecDepth 100000
set_option maxHeartbeats 4000000
set_option linter.unusedVariables false
theorem same_any (l m : List (List UInt8)) (h20 : All20 l) (g20 : All20 m) (hn : l.length < 256) (hm : m.length < 256) (A B : Option Addr) (c d : Nat) (w : World) (hA : Sl w A (idc l)) (hB : Sl w B (idc m)) :
    Calls Try.prog 21 #[.slice A l.length c, .slice B m.length d] w fun e w' => e = .returned (.bool (decide (l = m))) ∧ Below w.heap.size w w' := by
  by_cases hlen : l.length = m.length
  · obtain ⟨n, hnn⟩ : ∃ n, n = l.length := ⟨_, rfl⟩
    rw [← hlen, ← hnn]
    obtain ⟨r, hr⟩ : ∃ r, r = decide (l = m) := ⟨_, rfl⟩
    rw [← hr]
    have hn2 : n < 256 := by rw [hnn]; exact hn
    have H20 := Lib.hid h20; have G20 := Lib.hid g20; have HN := Lib.hid hnn; have HM := Lib.hid (hnn.trans hlen); have HA := Lib.hid hA; have HB := Lib.hid hB; have HR := Lib.hid hr
    clear h20 g20 hnn hA hB hr hn hm hlen
    go_enter Try.func21, Try.ntmps21
    go_wp2
    go_loopw [5] (fun t5 wr => ∃ i : Nat, t5 = .int .i64 (i : Int) ∧ i ≤ n ∧ Hid (∀ j, j < i → l.getD j [] = m.getD j []) ∧ Below w.heap.size w wr) (fun t5 _ => (n - intOf t5).toNat)
    case atStart => exact ⟨0, rfl, by omega, Lib.hid (fun j hj => by omega), Below.refl _ _⟩
    case round =>
      obtain ⟨i, rfl, hi, hT, hbw⟩ := hrel
      by_cases hin : i < n
      · have hil : i < l.length := by rw [← HN.out]; exact hin
        have him : i < m.length := by rw [← HM.out]; exact hin
        obtain ⟨ad, rfl⟩ : ∃ ad, A = some ad := by
          cases A with
          | some ad => exact ⟨ad, rfl⟩
          | none =>
            have := sl_none HA.out H20.out
            rw [this] at hil
            simp at hil
        obtain ⟨bd, rfl⟩ : ∃ bd, B = some bd := by
          cases B with
          | some bd => exact ⟨bd, rfl⟩
          | none =>
            have := sl_none HB.out G20.out
            rw [this] at him
            simp at him
        obtain ⟨x, hx⟩ : ∃ x, x = l.getD i [] := ⟨_, rfl⟩
        obtain ⟨y, hy⟩ : ∃ y, y = m.getD i [] := ⟨_, rfl⟩
        have hx20 := get20 H20.out i hil
        have hy20 := get20 G20.out i him
        have hrx := (sl_row HA.out H20.out i hil).below hbw
        have hry := (sl_row HB.out G20.out i him).below hbw
        rw [← hx] at hx20 hrx
        rw [← hy] at hy20 hry
        have lx : ∀ w', Below wr.heap.size wr w' → (loadVar 23 (ad.add (i * 20))).run Try.prog w' = .ok (idv x) w' := fun w' h => load_id x hx20 _ _ (hrx.below h)
        have ly : ∀ w', Below wr.heap.size wr w' → (loadVar 22 (bd.add (i * 20))).run Try.prog w' = .ok (idv y) w' := fun w' h => load_id22 y hy20 _ _ (hry.below h)
        obtain ⟨q, hq⟩ : ∃ q, decide (x = y) = q := ⟨_, rfl⟩
        have e1 : ∀ w, (Op.equalIn 10000 23 (idv x) (idv y)).run Try.prog w = .ok q w := fun w => by rw [eqlIn_run 23 Try.underlying23 x y hx20 hy20 w, hq]
        have LX := Lib.hid lx; have LY := Lib.hid ly; have HX := Lib.hid hx; have HY := Lib.hid hy; have HQ := Lib.hid hq
        clear lx ly hx hy hq hrx hry hx20 hy20
        cases q with
        | true =>
          go_wp2
          refine wp_region_quietC (C := fun w' => Below wr.heap.size wr w') (Below.refl _ _).drew (by kernel_rfl) (by kernel_rfl) ?_
          repeat (first
            | (refine wpQuiet_load 23 (.tmp 19) rfl (ad.add (i * 20)) rfl (idv x) LX.out _ rfl rfl ?_; simp only [List.set_cons_succ, List.set_cons_zero])
            | (refine wpQuiet_load 22 (.tmp 23) rfl (bd.add (i * 20)) rfl (idv y) LY.out _ rfl rfl ?_; simp only [List.set_cons_succ, List.set_cons_zero])
            | go_big_quiet_step ((intro hb; rfl)))
          refine wpQuiet_nil ?_
          intro w' hw'
          go_wp2
          go_roundw
          case rel => exact ⟨i + 1, by simp, by omega, Lib.hid (fun j hj => by
            by_cases e : j = i
            · subst e; rw [← HX.out, ← HY.out]; exact of_decide_eq_true HQ.out
            · exact hT.out j (by omega)), hbw.trans (hw'.mono hbw.size)⟩
          case measure => simp only [intOf]; omega
        | false =>
          go_wp2
          refine wp_region_quietC (C := fun w' => Below wr.heap.size wr w') (Below.refl _ _).drew (by kernel_rfl) (by kernel_rfl) ?_
          repeat (first
            | (refine wpQuiet_load 23 (.tmp 19) rfl (ad.add (i * 20)) rfl (idv x) LX.out _ rfl rfl ?_; simp only [List.set_cons_succ, List.set_cons_zero])
            | (refine wpQuiet_load 22 (.tmp 23) rfl (bd.add (i * 20)) rfl (idv y) LY.out _ rfl rfl ?_; simp only [List.set_cons_succ, List.set_cons_zero])
            | go_big_quiet_step ((intro hb; rfl)))
          refine wpQuiet_nil ?_
          intro w' hw'
          go_wp2
          go_ret
          exact ⟨by rw [HR.out, decide_eq_false (fun e => of_decide_eq_false HQ.out (by rw [HX.out, HY.out, e]))]; rfl, hbw.trans (hw'.mono hbw.size)⟩
      · obtain rfl : i = n := by omega
        have e : l = m := by
          refine List.ext_getElem (by rw [← HN.out, ← HM.out]) fun j h1 h2 => ?_
          have := hT.out j (by rw [HN.out]; exact h1)
          rw [List.getD_eq_getElem?_getD, List.getD_eq_getElem?_getD, List.getElem?_eq_getElem h1, List.getElem?_eq_getElem h2] at this
          exact this
        have HE := Lib.hid e
        clear e
        go_wp2
        go_ret
        exact ⟨by rw [HR.out, decide_eq_true HE.out]; rfl, hbw⟩
  · have hne : ¬ (l.length : Int) = (m.length : Int) := by omega
    have hne2 : ((l.length : Int) == (m.length : Int)) = false := beq_eq_false_iff_ne.2 hne
    have e : decide (l = m) = false := decide_eq_false (fun e => hlen (by rw [e]))
    rw [e]
    clear hlen e hA hB h20 g20
    generalize l.length = n at *
    generalize m.length = k at *
    go_enter Try.func21, Try.ntmps21
    go_wp2
    go_ret
    exact ⟨rfl, Below.refl _ _⟩
end Go.Proofs.Ytjiiploleinobaa
