/- pdqsort over a value with Less and Swap. Conditions: the row's length is below 256, Less is a strict weak order. -/
import Derived.Test.YtjiiploleinobaaSrtC
import Derived.Test.YtjiiploleinobaaSrtE
import Derived.Test.YtjiiploleinobaaSrtG
import Derived.Test.YtjiiploleinobaaSrtI
import Derived.Test.YtjiiploleinobaaSrtJ
import Derived.Test.YtjiiploleinobaaSrtK
namespace Go.Proofs.Ytjiiploleinobaa
open Go.RowKit
open Go.Sort (swp SWO PermIn SortedIn Hint)
set_option maxRecDepth 100000
set_option maxHeartbeats 16000000
set_option linter.unusedVariables false
section
variable {α : Type} [Inhabited α] {S : Value} {lt : α → α → Bool} {n g : Nat} {H : World → Array α → Prop}
theorem hintI_two {h : Hint} : (hintI h = 2) ↔ h = .decreasing := by cases h <;> simp [hintI]
theorem hintI_cases (h : Hint) : hintI h = 0 ∨ hintI h = 1 ∨ hintI h = 2 := by cases h <;> simp [hintI]
/-- one frame of pdqsort, out of the frames of shorter parts -/
theorem pdq_step (X : Srt S lt n g H) (hn : n < 256) (hO : SWO lt) (N : Nat) (ih : ∀ (a b lim : Nat) (d : Array α) (w : World), b - a < N → a ≤ b → b ≤ n → lim ≤ 1000 → H w d → d.size = n → Go.Sort.Below lt a b d →
    Calls Try.prog 44 #[.iface 64 S, .int .i64 (a : Int), .int .i64 (b : Int), .int .i64 (lim : Int)] w fun e w' => e = .returned (.tuple #[]) ∧ ∃ d', St H g n w w' d' ∧ PermIn a b d d' ∧ SortedIn lt a b d') (a b lim : Nat) (d : Array α) (w : World) (hN : b - a < N + 1) (hab : a ≤ b) (hb : b ≤ n) (hlim : lim ≤ 1000) (h : H w d) (hd : d.size = n) (hlow : Go.Sort.Below lt a b d) :
    Calls Try.prog 44 #[.iface 64 S, .int .i64 (a : Int), .int .i64 (b : Int), .int .i64 (lim : Int)] w fun e w' => e = .returned (.tuple #[]) ∧ ∃ d', St H g n w w' d' ∧ PermIn a b d d' ∧ SortedIn lt a b d' := by
    have mS : ∀ (w : World), (method 213 64 S "Less").run Try.prog w = .ok (81, S) w := fun w => by kernel_rfl
    have cS := less_calls S
    have c44 : ∀ (a b c : Int) (w : World), (callFunc 44 #[.iface 64 S, .int .i64 a, .int .i64 b, .int .i64 c]).run Try.prog w = .ok (.enter 44 #[.iface 64 S, .int .i64 a, .int .i64 b, .int .i64 c]) w := fun a b c w => by kernel_rfl
    have st0 := St.start (g := g) (n := n) w d h hd
    have hn2 : n ≤ 1099511627776 := by omega
    have lf0 := Lft.start (lt := lt) hab (by rw [hd]; exact hb) hlow
    have IH := Lib.hid ih
    have HD := Lib.hid hd
    clear ih h hd hlow
    go_enter Try.func44, Try.ntmps44
    go_wp2
    go_loopw [1, 2, 3, 8, 9] (fun t1 t2 t3 t8 t9 wr => ∃ (x y l : Nat) (D : Array α) (wb wp : Bool), t1 = .int .i64 (x : Int) ∧ t2 = .int .i64 (y : Int) ∧ t3 = .int .i64 (l : Int) ∧ t8 = .bool wb ∧ t9 = .bool wp ∧ y - x < N + 1 ∧ y ≤ n ∧ l ≤ 1000 ∧ Lft lt a b d x y D ∧ St H g n w wr D) (fun t1 t2 _ _ _ _ => (intOf t2 - intOf t1).toNat)
    case atStart => exact ⟨a, b, lim, d, true, true, rfl, rfl, rfl, rfl, rfl, hN, hb, hlim, lf0, st0⟩
    case round =>
      clear st0 lf0 hN hab hlim hb
      obtain ⟨x, y, l, D, wb, wp, rfl, rfl, rfl, rfl, rfl, hN, hy, hl, hlf, hst⟩ := hrel
      have hxy := hlf.ord
      have LF := Lib.hid hlf
      clear hlf
      by_cases h12 : y - x ≤ 12
      · have k := ins_any X hn2 D x y hxy hy wr hst.holds hst.size
        have z1 : (y : Int) - x ≤ 12 := by omega
        go_wp2_with (go_at_call 49; (with_reducible refine k.mono ?_); rintro e w1 ⟨rfl, hs1⟩)
        (try simp only [Exit.inBlock, Exit.then])
        refine bodyPost_ret (results_none rfl _ _ _) rfl ?_
        have f := Go.Sort.insertionSort_holds hO D x y hxy LF.out.top
        exact ⟨rfl, _, hst.trans hs1, LF.out.fin _ f.1 f.2⟩
      have z1 : ¬ (y : Int) - x ≤ 12 := by omega
      by_cases hl0 : l = 0
      · subst hl0
        have k := heap_any X hn2 D x y (by omega) hy wr hst.holds hst.size
        go_wp2_with (go_at_call 50; (with_reducible refine k.mono ?_); rintro e w1 ⟨rfl, hs1⟩)
        (try simp only [Exit.inBlock, Exit.then])
        refine bodyPost_ret (results_none rfl _ _ _) rfl ?_
        have f := Go.Sort.heapSort_holds hO D x y hxy LF.out.top
        exact ⟨rfl, _, hst.trans hs1, LF.out.fin _ f.1 f.2⟩
      have z2 : ¬ (l : Int) = 0 := by omega
      have z3 : ((l : Int) == 0) = false := beq_eq_false_iff_ne.2 z2
      go_upto_if 35 with (fail)
      go_cut [3] (fun tv wx => ∃ (l' : Nat) (D' : Array α), tv = .int .i64 (l' : Int) ∧ l' ≤ 1000 ∧ Hid (Lft lt a b d x y D') ∧ St H g n w wx D')
      case first =>
        cases wb with
        | true =>
          simp only [Bool.not_true]
          go_wp2
          go_meet
          case rel => exact ⟨l, D, rfl, hl, LF, hst⟩
        | false =>
          simp only [Bool.not_false]
          have k := break_any X hn D x y (by omega) hy wr hst.holds hst.size
          go_wp2_with (go_at_call 51; (with_reducible refine k.mono ?_); rintro e w1 ⟨rfl, hs1⟩)
          go_meet
          case rel => exact ⟨l - 1, _, by congr 1; omega, by omega, Lib.hid (LF.out.perm (Go.Sort.breakPatterns_holds D x y hxy LF.out.top)), hst.trans hs1⟩
      case rest =>
      clear hst LF hl hl0 z2 z3
      obtain ⟨l', D', rfl, hl, LF, hst⟩ := hcut
      obtain ⟨p, hh, hc⟩ : ∃ p hh, Go.Sort.choosePivot lt D' x y = (p, hh) := ⟨_, _, rfl⟩
      have hc0 := Go.Sort.choosePivot_holds lt D' x y (by omega)
      rw [hc] at hc0
      obtain ⟨p1, p2⟩ : x ≤ p ∧ p < y := hc0
      have k := pivot_any X hn2 D' x y (by omega) hy wc hst.holds hst.size p hh hc
      obtain ⟨hv, hhv⟩ : ∃ hv, hv = hintI hh := ⟨_, rfl⟩
      rw [← hhv] at k
      have hv3 : hv = 0 ∨ hv = 1 ∨ hv = 2 := by rw [hhv]; exact hintI_cases hh
      have HV3 := Lib.hid hv3
      clear hc hhv hv3
      go_upto_if 50 with (go_at_call 52; (with_reducible refine k.mono ?_); rintro e w1 ⟨rfl, hs1⟩)
      have hst := hst.trans hs1
      go_cut [11, 12] (fun tv th wx => ∃ (p' : Nat) (hq : Int) (D' : Array α), tv = .int .i64 (p' : Int) ∧ th = .int .i64 hq ∧ x ≤ p' ∧ p' < y ∧ Hid (hq = 0 ∨ hq = 1) ∧ Hid (Lft lt a b d x y D') ∧ St H g n w wx D')
      case first =>
        by_cases h2 : hv = 2
        · subst h2
          have k2 := reverse_any X hn2 D' x y (by omega) hy w1 hst.holds hst.size
          clear k
          go_wp2_with (go_at_call 53; (with_reducible refine k2.mono ?_); rintro e w2 ⟨rfl, hs2⟩)
          go_meet
          case rel => exact ⟨(y - 1) - (p - x), 1, _, by congr 1; omega, rfl, by omega, by omega, Lib.hid (.inr rfl), Lib.hid (LF.out.perm (Go.Sort.reverseRange_holds D' x y hxy LF.out.top)), hst.trans hs2⟩
        · have z2 : (hv == 2) = false := beq_eq_false_iff_ne.2 h2
          clear k
          (try simp only [z2, decide_eq_false h2])
          go_wp2
          go_meet
          case rel => exact ⟨p, hv, D', rfl, rfl, p1, p2, Lib.hid (by rcases HV3.out with e | e | e; exact .inl e; exact .inr e; exact absurd e h2), LF, hst⟩
      case rest =>
      clear hst LF hs1 k p1 p2 HV3
      obtain ⟨p, hq, D', rfl, rfl, p1, p2, HQ, LF, hst⟩ := hcut
      obtain ⟨q, hqq⟩ : ∃ q, q = (wb && wp && decide (hq = 1)) := ⟨_, rfl⟩
      have QQ := Lib.hid hqq
      clear hqq
      go_upto_region 15 with (fail)
      go_cut [68] (fun tv wx => tv = .bool q ∧ St H g n w wx D')
      case first =>
        cases wb with
        | false =>
          go_wp2
          go_meet
          case rel => exact ⟨by rw [QQ.out]; rfl, hst⟩
        | true =>
          cases wp with
          | false =>
            go_wp2
            go_meet
            case rel => exact ⟨by rw [QQ.out]; rfl, hst⟩
          | true =>
            rcases HQ.out with e | e
            · subst e
              go_wp2
              go_meet
              case rel => exact ⟨by rw [QQ.out]; rfl, hst⟩
            · subst e
              go_wp2
              go_meet
              case rel => exact ⟨by rw [QQ.out]; rfl, hst⟩
      case rest =>
      clear hst QQ
      obtain ⟨rfl, hst⟩ := hcut
      go_upto_if 68 with (fail)
      go_cut [11] (fun tv wx => tv = .int .i64 (p : Int) ∧ ∃ D' : Array α, Hid (Lft lt a b d x y D') ∧ St H g n w wx D')
      case first =>
        cases q with
        | false =>
          go_wp2
          go_meet
          case rel => exact ⟨rfl, D', LF, hst⟩
        | true =>
          obtain ⟨D2, q0, ho⟩ : ∃ D2 q0, Go.Sort.partialInsertionSort lt D' x y = (D2, q0) := ⟨_, _, rfl⟩
          have k := partial_any X hn2 D' x y (by omega) hy wc hst.holds hst.size D2 q0 ho
          have f := Go.Sort.partialInsertionSort_holds hO D' x y (by omega) LF.out.top LF.out.low
          rw [ho] at f
          have HF := Lib.hid f
          clear ho f
          cases q0 with
          | true =>
            go_wp2_with (go_at_call 54; (with_reducible refine k.mono ?_); rintro e w1 ⟨rfl, hs1⟩)
            (try simp only [Exit.inBlock, Exit.then])
            refine bodyPost_ret (results_none rfl _ _ _) rfl ?_
            exact ⟨rfl, _, hst.trans hs1, LF.out.fin _ HF.out.1 (HF.out.2 (by first | rfl | trivial))⟩
          | false =>
            go_wp2_with (go_at_call 54; (with_reducible refine k.mono ?_); rintro e w1 ⟨rfl, hs1⟩)
            go_meet
            case rel => exact ⟨rfl, D2, Lib.hid (LF.out.perm HF.out.1), hst.trans hs1⟩
      case rest =>
      clear hst LF
      obtain ⟨rfl, D', LF, hst⟩ := hcut
      obtain ⟨r, hr⟩ : ∃ r, lt D'[x - 1]! D'[p]! = r := ⟨_, rfl⟩
      have HR := Lib.hid hr
      obtain ⟨qe, hqe⟩ : ∃ qe, qe = (decide (0 < x) && !r) := ⟨_, rfl⟩
      have QE := Lib.hid hqe
      clear hr hqe
      go_upto_region 17 with (fail)
      go_cut [82] (fun tv wx => tv = .bool qe ∧ St H g n w wx D')
      case first =>
        by_cases hx : 0 < x
        · have k1 := hst.lessI X ((x : Int) - 1) (p : Int) (x - 1) p (by omega) rfl (by omega) (by omega) r HR.out
          have zx : (0 : Int) < x := by omega
          cases r with
          | false =>
            go_wp2_with (go_at_call 81; (with_reducible refine k1.mono ?_); rintro e w1 ⟨rfl, hs1⟩)
            go_meet
            case rel => exact ⟨by rw [QE.out, decide_eq_true hx]; rfl, hs1⟩
          | true =>
            go_wp2_with (go_at_call 81; (with_reducible refine k1.mono ?_); rintro e w1 ⟨rfl, hs1⟩)
            go_meet
            case rel => exact ⟨by rw [QE.out]; simp, hs1⟩
        · have zx : ¬ (0 : Int) < x := by omega
          go_wp2
          go_meet
          case rel => exact ⟨by rw [QE.out, decide_eq_false hx]; rfl, hst⟩
      case rest =>
      clear hst
      obtain ⟨rfl, hst⟩ := hcut
      cases qe with
      | true =>
        obtain ⟨m, D4, he⟩ : ∃ m D4, Go.Sort.partitionEqual lt D' x y p = (m, D4) := ⟨_, _, rfl⟩
        have k := equal_any X hn2 D' x y p p1 p2 hy wc hst.holds hst.size m D4 he
        have f : 0 < x ∧ r = false := by
          have e := QE.out
          rw [eq_comm, Bool.and_eq_true, decide_eq_true_eq, Bool.not_eq_true'] at e
          exact e
        have hm := LF.out.eq hO f.1 p1 p2 (by rw [HR.out]; exact f.2) he
        have hm1 := hm.1
        have hm2 := hm.2.ord
        have LF2 := Lib.hid hm.2
        clear he f hm QE HR
        go_wp2_with (go_at_call 55; (with_reducible refine k.mono ?_); rintro e w1 ⟨rfl, hs1⟩)
        go_roundw
        case rel => exact ⟨m, y, l', D4, wb, wp, rfl, rfl, rfl, rfl, rfl, by omega, hy, hl, LF2.out, hst.trans hs1⟩
        case measure => simp only [intOf]; omega
      | false =>
        obtain ⟨m, qp, D4, he⟩ : ∃ m qp D4, Go.Sort.partition lt D' x y p = (m, qp, D4) := ⟨_, _, _, rfl⟩
        have k := part_any X hn2 D' x y p p1 p2 hy wc hst.holds hst.size m qp D4 he
        obtain ⟨g1, g2, g3, g4, g5, g6, g7⟩ := LF.out.part hO p1 p2 he
        have G4 := Lib.hid g4; have G5 := Lib.hid g5; have G6 := Lib.hid g6; have G7 := Lib.hid g7
        clear he QE HR g4 g5 g6 g7
        by_cases hlr : m - x < y - m
        · have zl : (m : Int) - x < y - m := by omega
          go_wp2_with (first
            | (go_at_call 56; (with_reducible refine k.mono ?_); rintro e w1 ⟨rfl, hs1⟩
               have k2 := IH.out x m l' D4 w1 (by omega) g1 (by omega) hl hs1.holds hs1.size G4.out)
            | (go_at_call 44; (with_reducible refine k2.mono ?_); rintro e w2 ⟨rfl, D5, hs2, hp, hso⟩))
          go_roundw
          case rel => exact ⟨m + 1, y, l', D5, _, qp, by simp, rfl, rfl, rfl, rfl, by omega, hy, hl, G6.out D5 hp hso, (hst.trans hs1).trans hs2⟩
          case measure => simp only [intOf]; omega
        · have zl : ¬ (m : Int) - x < y - m := by omega
          go_wp2_with (first
            | (go_at_call 56; (with_reducible refine k.mono ?_); rintro e w1 ⟨rfl, hs1⟩
               have k2 := IH.out (m + 1) y l' D4 w1 (by omega) (by omega) hy hl hs1.holds hs1.size G5.out
               rw [show ((m + 1 : Nat) : Int) = (m : Int) + 1 by omega] at k2)
            | (go_at_call 44; (with_reducible refine k2.mono ?_); rintro e w2 ⟨rfl, D5, hs2, hp, hso⟩))
          go_roundw
          case rel => exact ⟨x, m, l', D5, _, qp, rfl, rfl, rfl, rfl, rfl, by omega, by omega, hl, G7.out D5 hp hso, (hst.trans hs1).trans hs2⟩
          case measure => simp only [intOf]; omega
theorem pdq_any (X : Srt S lt n g H) (hn : n < 256) (hO : SWO lt) (N : Nat) : ∀ (a b lim : Nat) (d : Array α) (w : World), b - a < N → a ≤ b → b ≤ n → lim ≤ 1000 → H w d → d.size = n → Go.Sort.Below lt a b d →
    Calls Try.prog 44 #[.iface 64 S, .int .i64 (a : Int), .int .i64 (b : Int), .int .i64 (lim : Int)] w fun e w' => e = .returned (.tuple #[]) ∧ ∃ d', St H g n w w' d' ∧ PermIn a b d d' ∧ SortedIn lt a b d' := by
  induction N with
  | zero => exact fun a b _ _ _ hN => absurd hN (by omega)
  | succ N ih => exact pdq_step X hn hO N ih
end
end Go.Proofs.Ytjiiploleinobaa
