/- delta.Make makes a delta that tells the target, and how long it is at most. Condition: base and target have at most 262144 bytes. -/
import Derived.Test.YtpfjkappgdpfbaaDelJ
namespace Go.Proofs.Ytpfjkappgdpfbaa
open Go.RowKit
open Go.ChangeMaps Go.MapKept Go.ChangeShapes Go.Maps
set_option maxRecDepth 100000
set_option maxHeartbeats 8000000
/-- a delta that Make made is handed back -/
def OutM (base target : List UInt8) (effort : Int) (w : World) (e : Ending) (w' : World) : Prop :=
  ∃ ops, MadeBy base target ops ∧ (encs ops).length ≤ 1000000 ∧ (1 ≤ effort → mSize base target ops) ∧ Out 5 (putSize base.length ++ putSize target.length ++ encs ops) w e w'
theorem mSize_le {base target : List UInt8} {ops : List DOp} (hb : base.length ≤ 262144) (ht : target.length ≤ 262144) (h : mSize base target ops) : (encs ops).length ≤ 1000000 := by
  unfold mSize at h
  obtain ⟨h2, h3, _⟩ := mFront_le base target
  obtain ⟨h4, h5, _⟩ := mBack_le base target
  omega
theorem make_start (Ab : Option Addr) (cb : Nat) (base : List UInt8) (target : List UInt8) (w w2 w3 : World) (v3 : Value) (hb2 : Below w.heap.size w w2) (hs : w.heap.size + 1 ≤ w2.heap.size) (hb3 : Below w2.heap.size w2 w3) (hm : w2.heap[w.heap.size]? = some (.map #[] 0)) (hw3 : WinB w3 w2.heap.size 5 v3 (putSize base.length ++ putSize target.length)) :
    Mk w.heap.size w3.heap.size (fun g => g = w.heap.size) (.slice Ab base.length cb) (.map (some w.heap.size)) (putSize base.length ++ putSize target.length) [] (w3.alloc (.cells #[.slice Ab base.length cb, .map (some w.heap.size), v3, .slice none 0 0] 86)) ∧
    (w3.alloc (.cells #[.slice Ab base.length cb, .map (some w.heap.size), v3, .slice none 0 0] 86)).heap[w.heap.size]? = some (.map #[] 0) ∧
    Below w.heap.size w (w3.alloc (.cells #[.slice Ab base.length cb, .map (some w.heap.size), v3, .slice none 0 0] 86)) := by
  refine ⟨Mk.start hw3 hb2.size hs, ?_, ?_⟩
  · exact (((Below.refl w3.heap.size w3).alloc (Nat.le_refl _) _).block _ (Nat.lt_of_lt_of_le hs hb3.size)).trans ((hb3.block _ hs).trans hm)
  · exact (hb2.trans (hb3.mono hb2.size)).alloc (Nat.le_trans hb2.size hb3.size) _
theorem Mk.mono {B mb : Nat} {F F' : Nat → Prop} {vb vm : Value} {x y : List UInt8} {w : World} (h : Mk B mb F vb vm x y w) (hF : ∀ g, F' g → F g) : Mk B mb F' vb vm x y w := by
  obtain ⟨vo, vw, h1, h2, h3, h4, h5, h6, h7, h8⟩ := h
  exact ⟨vo, vw, h1, h2, h3, h4, h5, h6, fun g hg e => h7 g hg (hF g e), fun g hg e => h8 g hg (hF g e)⟩
theorem Kq.low {B : Nat} {F : Nat → Prop} {w w' : World} (h : Kq B F w w') (hB : B ≤ w.heap.size) : Below B w w' := h.toBelow hB (fun k hk e => by omega)
theorem make_any (Ab : Option Addr) (cb : Nat) (base : List UInt8) (At : Option Addr) (ct : Nat) (target : List UInt8) (effort : Int) (w : World) (hb : base.length ≤ 262144) (ht : target.length ≤ 262144) (hcb : base.length ≤ cb) (hcbm : cb ≤ maxLen) (hct : target.length ≤ ct) (hctm : ct ≤ maxLen)
    (hAb : Bs w Ab base) (hAt : Bs w At target) :
    Calls Try.prog 31 #[.slice Ab base.length cb, .slice At target.length ct, .int .i64 effort] w (OutM base target effort w) := by
  have hmm := @run_makeMap Try.prog
  have hp1 := putSize_len base.length 3 (by omega) (by decide)
  have hp2 := putSize_len target.length 3 (by omega) (by decide)
  have k2 : ∀ w1 : World, Calls Try.prog 42 #[.slice none 0 0, .int .i64 base.length] w1 (Out 5 (putSize base.length) w1) := fun w1 => putSize_any none 0 [] base.length (by omega) w1 (by simp) (Sl.nil _ _)
  have g1 : decide ((262144 : Int) < (base.length : Int)) = false := decide_eq_false (by omega)
  have g2 : decide ((262144 : Int) < (target.length : Int)) = false := decide_eq_false (by omega)
  have hmp : (w.alloc (.map #[] 0)).heap[w.heap.size]? = some (.map #[] 0) := heap_alloc_new _ _
  have hw1 : Below w.heap.size w (w.alloc (.map #[] 0)) := (Below.refl _ _).alloc (Nat.le_refl _) _
  have HW1 := Lib.hid hw1; have HMP := Lib.hid hmp
  clear hw1 hmp
  have hpl : (putSize base.length ++ putSize target.length).length ≤ 6 := by rw [List.length_append]; omega
  go_enter Try.func31, Try.ntmps31
  go_upto_if 30 with (first
    | (go_at_call 42
       (with_reducible refine (k2 _).mono ?_); rintro e w2 ⟨v2, rfl, hw2, hb2⟩
       obtain ⟨A2, c2, rfl, _, _, hA2⟩ := WinB.readsN (n := (putSize base.length).length) hw2 rfl
       have k3 := putSize_any A2 c2 (putSize base.length) target.length (by omega) w2 (by omega) hA2
       have K3 := Lib.hid k3
       clear k3 hA2 hw2)
    | (go_at_call 42
       (with_reducible refine K3.out.mono ?_); rintro e w3 ⟨v3, rfl, hw3, hb3⟩
       obtain ⟨A3, c3, rfl, _, _, _⟩ := WinB.readsN (n := (putSize base.length).length + (putSize target.length).length) hw3 (by simp)))
  obtain ⟨hM4, hm4, hb4⟩ := make_start Ab cb base target w w2 w3 _ (HW1.out.trans (hb2.mono (by simp))) (by have := hb2.size; simpa using this) hb3 ((hb2.block _ (by simp)).trans HMP.out) hw3
  have hmbk : w.heap.size < w3.heap.size := by have h1 := hb2.size; have h2 := hb3.size; simp at h1; omega
  have hmb4 : w3.heap.size < (w3.alloc (.cells #[.slice Ab base.length cb, .map (some w.heap.size), .slice A3 ((putSize base.length).length + (putSize target.length).length) c3, .slice none 0 0] 86)).heap.size := by simp
  obtain ⟨w4, hw4⟩ : ∃ w4, w4 = w3.alloc (.cells #[.slice Ab base.length cb, .map (some w.heap.size), .slice A3 ((putSize base.length).length + (putSize target.length).length) c3, .slice none 0 0] 86) := ⟨_, rfl⟩
  rw [← hw4] at hM4 hm4 hb4 hmb4 ⊢
  obtain ⟨mb, hmbe⟩ : ∃ mb, mb = w3.heap.size := ⟨_, rfl⟩
  rw [← hmbe] at hM4 hmbk hmb4 ⊢
  obtain ⟨x1, hx1⟩ : ∃ x1, x1 = putSize base.length ++ putSize target.length := ⟨_, rfl⟩
  rw [← hx1] at hM4 hpl
  have HX1 := Lib.hid hx1
  clear hw4 hmbe hw3 hb3 hb2 K3 k2 hmm hp1 hp2 HW1 HMP g1 g2 hx1
  have hF1 : ∀ g, g = w.heap.size → g < w4.heap.size := fun g hg => by omega
  have hFm1 : ¬ mb = w.heap.size := by omega
  by_cases he : effort < 1
  · have q1 : decide (effort < 1) = true := decide_eq_true he
    simp only [q1]
    have kc := clone_any At ct target w4 (by omega) (hAt.below hb4)
    have hys := ins_spec base target.length target (Nat.le_refl _)
    have HYS := Lib.hid hys; clear hys
    go_wp2_with (first
      | (go_at_call 51
         (with_reducible refine kc.mono ?_); rintro e w5 ⟨v5, rfl, hw5, hb5⟩
         obtain ⟨A5, c5, rfl, _, _, _⟩ := WinB.readsN (n := target.length) hw5 rfl
         obtain ⟨fz5, ⟨u5, cc5⟩, hM5, hK5⟩ := Mk.set (Nat.le_of_lt hmbk) hFm1 hF1 hb4.size hM4 hb5 hw5
         have kf := flush_any w.heap.size mb (fun g => g = w.heap.size) _ _ x1 target _ (Nat.le_of_lt hmbk) hFm1 (fun g hg => Nat.lt_of_lt_of_le (hF1 g hg) hK5.size) (Nat.le_trans hb4.size hK5.size) hM5 (by omega) (by omega)
         have KF := Lib.hid kf
         clear kf hM5)
      | (go_at_call 52
         (with_reducible refine KF.out.mono ?_); rintro e w7 ⟨rfl, ⟨vo, vw, e1, e2, _⟩, hk7⟩
         obtain ⟨m7, hm7⟩ : ∃ m7, m7 = (x1 ++ encs (ins target)).length := ⟨_, rfl⟩
         obtain ⟨A7, c7, rfl, hc7, _, _⟩ := WinB.readsN (n := m7) e2 hm7.symm
         have cc7 : w7.cell? ⟨mb, 2, none⟩ = some (.slice A7 m7 c7) := by rw [cell_of_row _ _ _ _ _ _ e1]; rfl
         have kz := clip72 A7 m7 c7 hc7 w7
         have E2 := Lib.hid e2; have HM7 := Lib.hid hm7
         clear e2 hm7 e1)
      | (go_at_call 45
         (with_reducible refine kz.mono ?_); rintro e w8 ⟨rfl, rfl⟩))
    go_ret
    refine ⟨ins target, ⟨HYS.out.1, HYS.out.2.1⟩, by have := HYS.out.2.2; omega, fun h => by omega, .slice A7 m7 m7, rfl, ?_, hb4.trans (Kq.low (Kp.trans hK5 hk7) hb4.size)⟩
    rw [← HX1.out]
    exact WinB.clip E2.out HM7.out
  · have q1 : decide (effort < 1) = false := decide_eq_false he
    simp only [q1]
    have ka := alike_any Ab cb base At ct target w4 (by omega) (by omega) (hAb.below hb4) (hAt.below hb4)
    obtain ⟨f1, f2, f3⟩ := mFront_le base target
    obtain ⟨d1, d2, d3⟩ := mBack_le base target
    have HJ := Lib.hid (fun mid => made_join (base := base) (target := target) hb (mid := mid))
    have hfe : mFront base target = if alike base target < 8 then 0 else alike base target := rfl
    have hbe : mBack base target = if behind (base.drop (mFront base target)) (target.drop (mFront base target)) < 8 then 0 else behind (base.drop (mFront base target)) (target.drop (mFront base target)) := rfl
    generalize mFront base target = f at f1 f2 f3 d1 d2 d3 HJ hfe hbe
    generalize mBack base target = b at d1 d2 d3 HJ hbe
    have HFE := Lib.hid hfe; have HBE := Lib.hid hbe
    clear f3 d3 hfe hbe
    have hal := alike_le base target
    go_upto_if 47 with (go_at_call 53; (with_reducible refine ka.mono ?_); rintro e w5 ⟨rfl, hb5⟩)
    go_cut [8] from 11 (fun t8 wx => t8 = .int .i64 f ∧ wx = w5)
    case first =>
      by_cases ha : alike base target < 8
      · have q2 : decide ((alike base target : Int) < 8) = true := decide_eq_true (by omega)
        simp only [q2]
        go_wp2
        go_meet
        case rel => exact ⟨by rw [HFE.out, if_pos ha]; rfl, rfl⟩
      · have q2 : decide ((alike base target : Int) < 8) = false := decide_eq_false (by omega)
        simp only [q2]
        go_wp2
        go_meet
        case rel => exact ⟨by rw [HFE.out, if_neg ha], rfl⟩
    case rest =>
    obtain ⟨rfl, rfl⟩ := hcut
    clear ka hal
    have hB5 := hb4.trans (hb5.mono hb4.size)
    have s1 := slice_from22 Ab base.length cb f (by omega)
    have s2 := slice_from22 At target.length ct f (by omega)
    have e1 : (base.drop f).length = base.length - f := by simp
    have e2 : (target.drop f).length = target.length - f := by simp
    have kb : ∀ W, Below wc.heap.size wc W → Calls Try.prog 54 #[.slice (cutA Ab cb f 1) (base.length - f) (cb - f), .slice (cutA At ct f 1) (target.length - f) (ct - f)] W fun e w' => e = .returned (.int .i64 (behind (base.drop f) (target.drop f))) ∧ Below wc.heap.size wc w' := fun W hW => by
      have hW0 : Below w.heap.size w W := hB5.trans (hW.mono hB5.size)
      have := behind_any (cutA Ab cb f 1) (cb - f) (base.drop f) (cutA At ct f 1) (ct - f) (target.drop f) W (by rw [e1]; omega) (by rw [e2]; omega) (Bs.cut (hAb.below hW0) f cb hcb) (Bs.cut (hAt.below hW0) f ct hct)
      rw [e1, e2] at this
      exact quietB hW this
    have hbl := behind_le (base.drop f) (target.drop f)
    rw [e1, e2] at hbl
    clear e1 e2
    go_upto_region 11 with fail
    refine wp_region_quietC (C := fun w' => Below wc.heap.size wc w') (Below.refl _ _).drew (by kernel_rfl) (by kernel_rfl) ?_
    repeat (go_big_quiet_step ((intro hb; first | rfl | exact kb _ hb)))
    refine wpQuiet_nil ?_
    intro w6 hb6
    go_upto_if 56 with fail
    go_cut [9] from 11 (fun t9 wx => t9 = .int .i64 b ∧ wx = w6)
    case first =>
      by_cases ha : behind (base.drop f) (target.drop f) < 8
      · have q2 : decide ((behind (base.drop f) (target.drop f) : Int) < 8) = true := decide_eq_true (by omega)
        simp only [q2]
        go_wp2
        go_meet
        case rel => exact ⟨by rw [HBE.out, if_pos ha]; rfl, rfl⟩
      · have q2 : decide ((behind (base.drop f) (target.drop f) : Int) < 8) = false := decide_eq_false (by omega)
        simp only [q2]
        go_wp2
        go_meet
        case rel => exact ⟨by rw [HBE.out, if_neg ha], rfl⟩
    case rest =>
    obtain ⟨rfl, rfl⟩ := hcut
    clear kb hbl s1 s2
    have hb46 := hb5.trans (hb6.mono hb5.size)
    have hB6 := hb4.trans (hb46.mono hb4.size)
    have hM6 := hM4.below hb46
    have hm6 := (hb46.block _ (by omega)).trans hm4
    have hmb6 := Nat.lt_of_lt_of_le hmb4 hb46.size
    clear hM4 hm4 hb5 hb6 hB5 hb46
    have kc := copies_any w.heap.size mb (fun g => g = w.heap.size) _ _ x1 [] 0 f wc (Nat.le_of_lt hmbk) hFm1 (fun g hg => by omega) hB6.size hM6 (by omega) (by omega)
    rw [show ((0 : Nat) : Int) = 0 from rfl] at kc
    obtain ⟨m, hm⟩ : ∃ m : Nat, m = target.length - b - f := ⟨_, rfl⟩
    have s3 := slice_lh Try.underlying22 Try.one22 At target.length ct (f : Int) ((target.length : Int) - (b : Int)) m f (by omega) rfl (by omega) (by omega) (by omega)
    have KC := Lib.hid kc; have HM := Lib.hid hm
    clear kc hM6 hm
    go_upto_if 69 with (go_at_call 55; (with_reducible refine KC.out.mono ?_); rintro e w7 ⟨rfl, hM7, hk7⟩)
    obtain ⟨x2, hx2⟩ : ∃ x2, x2 = x1 ++ encs (cps 0 f) := ⟨_, rfl⟩
    rw [← hx2] at hM7
    have hc0 := cps_spec base (by omega) f 0 f (Nat.le_refl _) (by omega)
    have hx2l : x2.length ≤ 1048576 := by rw [hx2, List.length_append]; have := hc0.2.2; omega
    have HX2 := Lib.hid hx2
    clear hx2 hc0
    have hB7 := hB6.trans ((Kq.low hk7 hB6.size).mono (Nat.le_refl _))
    have hm7 := (hk7.block _ (by omega) (fun h => h.2 rfl)).trans hm6
    have hmb7 := Nat.lt_of_lt_of_le hmb6 hk7.size
    clear hm6 hmb6 hk7
    obtain ⟨mid, hmid⟩ : ∃ mid, mid = (target.drop f).take m := ⟨_, rfl⟩
    have hml : mid.length = m := by rw [hmid]; simp; have := HM.out; omega
    have HMID := Lib.hid hmid; clear hmid
    have hw7 : w.heap.size < w7.heap.size := by omega
    have hmle : m ≤ 262144 := by have := HM.out; omega
    go_cut [] from 11 (fun wx => ∃ ops, Good base ops ∧ text base ops = mid ∧ (encs ops).length ≤ 2 * m ∧ Mk w.heap.size mb (fun _ => False) (.slice Ab base.length cb) (.map (some w.heap.size)) (x2 ++ encs ops) [] wx ∧ Below w.heap.size w wx)
    case first =>
      by_cases h0 : m = 0
      · have hmn : mid = [] := List.eq_nil_of_length_eq_zero (by omega)
        have HMN := Lib.hid hmn
        have q3 : decide (0 < m) = false := decide_eq_false (by omega)
        clear hmn h0 hml
        simp only [q3]
        go_wp2
        go_meet
        case rel => exact ⟨[], Good.nil _, by rw [HMN.out]; rfl, by simp [encs_nil], by simpa [encs_nil] using hM7.mono (fun g h => h.elim), hB7⟩
      · have q3 : decide (0 < m) = true := decide_eq_true (by omega)
        simp only [q3]
        go_upto_if 72 with fail
        go_cut [] from 11 (fun wx => ∃ n, n ≤ base.length ∧ Mq base.length w7.heap.size w.heap.size n wx ∧ Kp (fun k => k = w.heap.size) w7 wx)
        case first =>
          by_cases h16 : 16 ≤ m
          · have q4 : decide ((16 : Int) ≤ (m : Int)) = true := decide_eq_true (by omega)
            simp only [q4]
            obtain ⟨vo, vw, h1, _⟩ := hM7
            have kl := fun L => learn_any mb w.heap.size Ab cb base vo vw L w7 h1 hm7 hFm1 (fun w' hk' => hAb.below (hB7.trans (hk'.toBelow hB7.size (fun k hk e => by omega)))) hcb hcbm (by omega)
            have KL := Lib.hid kl
            clear kl h1
            go_wp2_with (go_at_call 56; (with_reducible refine (KL.out _).mono ?_); rintro e w8 ⟨rfl, ⟨n, hn, hq⟩, hk8⟩)
            all_goals (
              go_meet
              case rel => exact ⟨n, hn, hq, hk8⟩)
          · have q4 : decide ((16 : Int) ≤ (m : Int)) = false := decide_eq_false (by omega)
            simp only [q4]
            go_wp2
            go_meet
            case rel => exact ⟨0, by omega, Mq.empty hm7 hw7, Kp.refl _ _⟩
        case rest =>
        obtain ⟨n, hn, hq, hk8⟩ := hcut
        have hML := Mk.learned hFm1 hM7 hk8
        have hB8 := hB7.trans (hk8.toBelow hB7.size (fun k hk e => by omega))
        have hk8s := hk8.size
        have kr := run_any w.heap.size mb w.heap.size w7.heap.size n (fun g => g = w.heap.size ∨ (w7.heap.size ≤ g ∧ g < wc.heap.size)) Ab cb base (cutA At ct f 1) (ct - f) mid x2 wc (Nat.le_of_lt hmbk) (fun h => by omega) (fun g h => by omega) (Or.inl rfl) (fun g h1 h2 => Or.inr ⟨h1, h2⟩) hB8.size hML hq hn
          (fun w' hk' => hAb.below (hB8.trans (Kq.low hk' hB8.size))) (fun w' hk' => by rw [HMID.out]; exact Bs.take (Bs.cut (hAt.below (hB8.trans (Kq.low hk' hB8.size))) f ct hct) m) (by have := HM.out; omega) (by omega) hx2l (by omega) (by omega)
        rw [hml] at kr
        have KR := Lib.hid kr
        clear kr hML hq hM7
        go_wp2_with (go_at_call 57; (with_reducible refine KR.out.mono ?_); rintro e w9 ⟨rfl, ops, hgd, htx, hle, hM9, hk9⟩)
        go_meet
        case rel => exact ⟨ops, hgd, htx, hle, hM9.mono (fun g h => h.elim), hB8.trans (Kq.low hk9 hB8.size)⟩
    case rest =>
    obtain ⟨ops, hgd, htx, hle, hM9, hB9⟩ := hcut
    have kc := copies_any w.heap.size mb (fun _ => False) _ _ (x2 ++ encs ops) [] (base.length - b) b wc (Nat.le_of_lt hmbk) (fun h => h) (fun g h => h.elim) hB9.size hM9 (by rw [List.length_append]; omega) (by omega)
    rw [show ((base.length - b : Nat) : Int) = (base.length : Int) - (b : Int) by omega] at kc
    have hj := HJ.out ops hgd (by rw [htx, HMID.out, HM.out]) (by rw [← HM.out]; exact hle)
    have KC2 := Lib.hid kc; have HJ2 := Lib.hid hj
    clear kc hj hM9 hgd htx hle
    go_wp2_with (first
      | (go_at_call 55
         (with_reducible refine KC2.out.mono ?_); rintro e w10 ⟨rfl, ⟨vo, vw, e1, e2, _⟩, hk10⟩
         obtain ⟨m10, hm10⟩ : ∃ m10, m10 = (x2 ++ encs ops ++ encs (cps (base.length - b) b)).length := ⟨_, rfl⟩
         obtain ⟨A10, c10, rfl, hc10, _, _⟩ := WinB.readsN (n := m10) e2 hm10.symm
         have cc10 : w10.cell? ⟨mb, 2, none⟩ = some (.slice A10 m10 c10) := by rw [cell_of_row _ _ _ _ _ _ e1]; rfl
         have kz := clip72 A10 m10 c10 hc10 w10
         have E2 := Lib.hid e2; have HM10 := Lib.hid hm10
         clear e2 hm10 e1)
      | (go_at_call 45
         (with_reducible refine kz.mono ?_); rintro e w8 ⟨rfl, rfl⟩))
    go_ret
    refine ⟨cps 0 f ++ (ops ++ cps (base.length - b) b), HJ2.out.1, mSize_le hb ht HJ2.out.2, fun _ => HJ2.out.2, .slice A10 m10 m10, rfl, ?_, hB9.trans (Kq.low hk10 hB9.size)⟩
    rw [← HX1.out, encs_append, encs_append, ← List.append_assoc, ← HX2.out, ← List.append_assoc]
    exact WinB.clip E2.out HM10.out
end Go.Proofs.Ytpfjkappgdpfbaa
