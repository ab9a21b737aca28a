/- trovelaw13.DeltaCopies answers true at any base and any numbers. No condition. -/
import Derived.Test.YtpfjkappgdpfbaaDelIn
import Derived.Test.YtpfjkappgdpfbaaDelG
namespace Go.Proofs.Ytpfjkappgdpfbaa
open Go.RowKit
set_option maxRecDepth 100000
set_option maxHeartbeats 8000000
set_option linter.unusedVariables false
theorem applyR_bad (base : List UInt8) (size : Nat) : ∀ (l : List DOp) (out : List UInt8), (∃ o ∈ l, ¬ opIn base o) → applyR base size l out = ([], 2)
  | [], out, h => by obtain ⟨o, ho, _⟩ := h; simp at ho
  | o :: l, out, ⟨p, hp, hn⟩ => by
    rw [applyR]
    by_cases h1 : opIn base o
    · rw [if_pos h1]
      split
      · rfl
      · refine applyR_bad base size l _ ⟨p, ?_, hn⟩
        rcases List.mem_cons.1 hp with h | h
        · rw [h] at hn; exact absurd h1 hn
        · exact h
    · rw [if_neg h1]
/-- what the loop has gathered: the steps, what they tell, whether each lies in base, how many bytes they ask for -/
def CpS (base : List UInt8) (ops : List DOp) (want : List UInt8) (ok : Bool) (n : Nat) : Prop :=
  (∀ o ∈ ops, okOp o) ∧ (ok = true → Good base ops ∧ text base ops = want ∧ n = want.length) ∧ (ok = false → ∃ o ∈ ops, ¬ opIn base o)
theorem CpS.nil (base : List UInt8) : CpS base [] [] true 0 := ⟨by simp, fun _ => ⟨Good.nil _, rfl, rfl⟩, fun h => nomatch h⟩
theorem cp_ok {base : List UInt8} {f k : Nat} (hb : base.length ≤ 600) (hf : f < base.length + 2) (hk : 1 ≤ k) (hk2 : k ≤ base.length) : okOp ⟨true, f, k, []⟩ := by
  unfold okOp
  rw [if_pos rfl]
  simp; omega
theorem CpS.bad {base : List UInt8} {ops : List DOp} {want : List UInt8} {ok : Bool} {n f k : Nat} (h : CpS base ops want ok n) (ho : okOp ⟨true, f, k, []⟩) (hout : base.length < f + k) : CpS base (ops ++ [⟨true, f, k, []⟩]) want false (n + k) := by
  refine ⟨fun o hm => ?_, (fun h => by cases h), fun _ => ⟨⟨true, f, k, []⟩, by simp, fun hi => ?_⟩⟩
  · rcases List.mem_append.1 hm with hm | hm
    · exact h.1 o hm
    · simp at hm; rw [hm]; exact ho
  · have := hi rfl
    simp only at this
    omega
theorem CpS.good {base : List UInt8} {ops : List DOp} {want : List UInt8} {ok : Bool} {n f k : Nat} (h : CpS base ops want ok n) (ho : okOp ⟨true, f, k, []⟩) (hin : f + k ≤ base.length) : CpS base (ops ++ [⟨true, f, k, []⟩]) (want ++ (base.drop f).take k) ok (n + k) := by
  refine ⟨fun o hm => ?_, fun hk => ?_, fun hk => ?_⟩
  · rcases List.mem_append.1 hm with hm | hm
    · exact h.1 o hm
    · simp at hm; rw [hm]; exact ho
  · obtain ⟨a, b, c⟩ := h.2.1 hk
    have hi : opIn base ⟨true, f, k, []⟩ := fun _ => by simp only; omega
    refine ⟨a.append (Good.cons ⟨ho, hi⟩ (Good.nil _)), ?_, ?_⟩
    · rw [text_append, b, text_cons, text_nil]
      simp [opB]
    · rw [c]
      simp; omega
  · obtain ⟨o, h1, h2⟩ := h.2.2 hk
    exact ⟨o, by simp [h1], h2⟩
theorem CpS.apply {base : List UInt8} {ops : List DOp} {want : List UInt8} {ok : Bool} {n : Nat} (h : CpS base ops want ok n) (hb : base.length < 2 ^ 63) (hn : n ≤ 16384) :
    applyD base (putSize base.length ++ putSize n ++ encs ops) 16384 = if ok then (want, 0) else ([], 2) := by
  obtain ⟨_, hd⟩ := deltaR_print base.length n hb (by omega) ops h.1
  unfold applyD
  rw [hd]
  simp only [if_true]
  rw [if_neg (by omega)]
  cases ok with
  | true =>
    obtain ⟨a, b, c⟩ := h.2.1 rfl
    rw [applyR_text base n ops [] a (by rw [List.nil_append, b, c]), b]; rfl
  | false => rw [applyR_bad base n ops [] (h.2.2 rfl)]; rfl
theorem print27 (b o : Int) (A : Option Addr) (n c : Nat) (l : List DOp) (w : World) (r : List UInt8 × Nat) (hb : b < 9223372036854775808) (ho : o < 9223372036854775808) (hl : l.length ≤ 1073741824) (hA : OpsR w A l) (hn : n = l.length) (h : printR b o l = r) :
    Calls Try.prog 27 #[.int .i64 b, .int .i64 o, .slice A n c] w (Out2 r w) := by
  subst hn h
  exact printRef_any b o A c l w hb ho hl hA
theorem deltaCopies_any (A : Option Addr) (c : Nat) (base : List UInt8) (A1 : Option Addr) (c1 : Nat) (l : List Int) (w : World) (hc : base.length ≤ c) (hA : Bs w A base) (hc1 : l.length ≤ c1) (hA1 : Sl w A1 (l.map (Value.int .u16))) (hwf : ∀ n ∈ l, (Lit.int .u16 n).wf = true) :
    Calls Try.prog 11 #[.slice A base.length c, .slice A1 l.length c1] w fun e w' => e = .returned (.bool true) ∧ Below w.heap.size w w' := by
  by_cases h0 : base.length = 0
  · have q0 : ((base.length : Int) == 0) = true := by simp [h0]
    have H0 := Lib.hid h0
    clear h0
    go_enter Try.func11, Try.ntmps11
    go_wp2_with (go_at_call 25; refine (known_any _).mono ?_; rintro e w1 ⟨rfl, hb1⟩)
    go_ret
    exact ⟨rfl, hb1⟩
  have q0 : ((base.length : Int) == 0) = false := by rw [beq_eq_false_iff_ne]; omega
  by_cases h1 : 600 < base.length
  · go_enter Try.func11, Try.ntmps11
    go_wp2_with (go_at_call 25; refine (known_any _).mono ?_; rintro e w1 ⟨rfl, hb1⟩)
    go_ret
    exact ⟨rfl, hb1⟩
  by_cases h2 : 20 < l.length
  · go_enter Try.func11, Try.ntmps11
    go_wp2_with (go_at_call 25; refine (known_any _).mono ?_; rintro e w1 ⟨rfl, hb1⟩)
    go_ret
    exact ⟨rfl, hb1⟩
  go_enter Try.func11, Try.ntmps11
  go_wp2_with (go_at_call 25; (with_reducible refine (known_any _).mono ?_); rintro e w1 ⟨rfl, hb1⟩)
  go_loopw [5, 6, 7, 8, 9] (fun t5 t6 t7 t8 t9 wr => ∃ (ops : List DOp) (want : List UInt8) (ok : Bool) (n i : Nat), t7 = .bool ok ∧ t8 = .int .i64 n ∧ t9 = .int .i64 i ∧ i ≤ l.length + 1 ∧ 2 * ops.length ≤ i ∧ n ≤ 300 * i ∧ want.length ≤ 300 * i ∧ CpS base ops want ok n ∧
      OpsV w1 wr w1.heap.size 56 t5 ops ∧ WinB wr w1.heap.size 5 t6 want ∧ Below w1.heap.size w1 wr) (fun _ _ _ _ t9 _ => l.length + 1 - (intOf t9).toNat)
  case atStart => exact ⟨[], [], true, 0, 0, rfl, rfl, rfl, by omega, by simp, by omega, by simp, CpS.nil _, ⟨[], rfl, Win.nil _ _ _ _, fun j d o h => by simp at h⟩, Win.nil _ _ _ _, Below.refl _ _⟩
  case round =>
    obtain ⟨ops, want, ok, n, i, rfl, rfl, rfl, hi, hol, hn, hwl, hS, hops, hwv, hb⟩ := hrel
    have hB := hb1.trans (hb.mono hb1.size)
    by_cases hlt : i + 1 < l.length
    · obtain ⟨i1, hi1⟩ : ∃ i1, i1 = i + 1 := ⟨_, rfl⟩
      obtain ⟨a1, rfl, hx⟩ := (hA1.below hB) i (.int .u16 (l[i]'(by omega))) (by simp)
      obtain ⟨a2, e, hy⟩ := (hA1.below hB) i1 (.int .u16 (l[i1]'(by omega))) (by simp)
      injection e with e
      subst e
      have w1' := bounds_u16 (hwf (l[i]'(by omega)) (List.getElem_mem _))
      have w2' := bounds_u16 (hwf (l[i1]'(by omega)) (List.getElem_mem _))
      obtain ⟨z1, hz1⟩ : ∃ z1, z1 = l[i]'(by omega) := ⟨_, rfl⟩
      obtain ⟨z2, hz2⟩ : ∃ z2, z2 = l[i1]'(by omega) := ⟨_, rfl⟩
      rw [← hz1] at hx w1'
      rw [← hz2] at hy w2'
      clear hz1 hz2
      obtain ⟨f, hf⟩ : ∃ f : Nat, z1 % ((base.length : Int) + 2) = (f : Int) := ⟨(z1 % ((base.length : Int) + 2)).toNat, by have := Int.emod_nonneg z1 (show (base.length : Int) + 2 ≠ 0 by omega); omega⟩
      obtain ⟨k0, hk0⟩ : ∃ k0 : Nat, z2 % (base.length : Int) = (k0 : Int) := ⟨(z2 % (base.length : Int)).toNat, by have := Int.emod_nonneg z2 (show (base.length : Int) ≠ 0 by omega); omega⟩
      have hfl : f < base.length + 2 := by have := Int.emod_lt_of_pos z1 (show (0 : Int) < (base.length : Int) + 2 by omega); omega
      have hkl : k0 < base.length := by have := Int.emod_lt_of_pos z2 (show (0 : Int) < (base.length : Int) by omega); omega
      obtain ⟨k, hk⟩ : ∃ k, k = k0 + 1 := ⟨_, rfl⟩
      have hk1 : (1 : Int) + (k0 : Int) = (k : Int) := by omega
      have hii : (i : Int) + 1 = (i1 : Int) := by omega
      have hok := cp_ok (f := f) (k := k) (by omega) hfl (by omega) (by omega)
      have hkl2 : k ≤ base.length := by omega
      obtain ⟨vs, hvs, hwin, hds⟩ := hops
      have HV := Lib.hid hvs; have HW := Lib.hid hwin; have HDS := Lib.hid hds; have HWV := Lib.hid hwv; have HS := Lib.hid hS; have HOK := Lib.hid hok; have HI1 := Lib.hid hi1; have HK := Lib.hid hk
      have hi1l : i1 < l.length := by omega
      have HA := Lib.hid hA
      clear hvs hwin hds hwv hS hok hi1 hlt hk hA
      have hsz := hb.size
      have hbA : Below wr.heap.size wr (wr.alloc (.cells #[.bool true, .int .i64 f, .int .i64 k, .slice none 0 0] 56)) := (Below.refl _ _).alloc (Nat.le_refl _) _
      go_upto_region 14 with fail
      simp only [hf]
      by_cases hin : f + k ≤ base.length
      · have q3 : decide ((base.length : Int) < (f : Int) + (k : Int)) = false := decide_eq_false (by omega)
        have hsl := slice_lh Try.underlying22 Try.one22 A base.length c (f : Int) ((f : Int) + (k : Int)) k f (by omega) rfl (by omega) (by omega) (by omega)
        have hxl : ((base.drop f).take k).length = k := by simp; omega
        have HXL := Lib.hid hxl
        clear hxl
        go_wp2_with (first
          | (at_builtin
             refine appW43 rfl (.tmp 57) (.tmp 61) rfl w1.heap.size _ ops vs rfl (Win.below HW.out hbA) (some ⟨wr.heap.size, 0, none⟩) 1 (.slice none 0 0) ⟨true, f, k, []⟩ rfl rfl (Sl.of_block (heap_alloc_new _ _) (fun j v hj => by simpa [opCells] using hj)) (by omega) (Nat.le_trans hsz (by simp)) ?_
             intro v6 w6 hw6 hk6 ho6
             have hwb6 := Win.kp (Win.below HWV.out hbA) hk6 (fun g hg e => Win.apart (Win.below HW.out hbA) (Win.below HWV.out hbA) (by decide) g e hg)
             have hB6 : Below w1.heap.size w1 w6 := (hb.trans (hbA.mono hsz)).trans (hk6.toBelow (Nat.le_trans hsz hbA.size) (fun g hg e => absurd (Win.block HW.out g e).1 (by omega)))
             have hov : OpsV w1 w6 w1.heap.size 56 v6 (ops ++ [⟨true, f, k, []⟩]) := OpsV.snoc (Ad := none) (cd := 0) HV.out HDS.out (by simp) (by simp) (Sl.nil _ _) hw6
             have HOV := Lib.hid hov; have HWB := Lib.hid hwb6
             clear hov hwb6 hw6)
          | (at_builtin
             refine appW22 rfl (.tmp 72) (.tmp 78) rfl w1.heap.size _ want rfl HWB.out (cutA A c f 1) (c - f) ((base.drop f).take k) (by rw [HXL.out]; rfl) (Bs.take (Bs.cut (Sl.below (Sl.below HA.out hb1) hB6) f c hc) k) (by simp; omega) hB6.size ?_
             intro v7 w7 hw7 hk7 ho7
             have hov7 : OpsV w1 w7 w1.heap.size 56 v6 (ops ++ [⟨true, f, k, []⟩]) := by
               obtain ⟨vs', x1, x2, x3⟩ := HOV.out
               exact ⟨vs', x1, Win.kp x2 hk7 (fun g hg e => Win.apart x2 HWB.out (by decide) g hg e), x3⟩
             have hB7 : Below w1.heap.size w1 w7 := hB6.trans (hk7.toBelow hB6.size (fun g hg e => absurd (Win.block HWB.out g e).1 (by omega)))
             have HOV7 := Lib.hid hov7
             clear hov7))
        go_roundw
        case rel => exact ⟨ops ++ [⟨true, f, k, []⟩], want ++ (base.drop f).take k, ok, n + k, i + 2, rfl, by go_num, by go_num, by omega, by simp; omega, by omega, by rw [List.length_append, HXL.out]; omega, HS.out.good HOK.out hin, HOV7.out, hw7, hB7⟩
        case measure => simp [intOf]; omega
      · have q3 : decide ((base.length : Int) < (f : Int) + (k : Int)) = true := decide_eq_true (by omega)
        go_wp2_with (first
          | (at_builtin
             refine appW43 rfl (.tmp 57) (.tmp 61) rfl w1.heap.size _ ops vs rfl (Win.below HW.out hbA) (some ⟨wr.heap.size, 0, none⟩) 1 (.slice none 0 0) ⟨true, f, k, []⟩ rfl rfl (Sl.of_block (heap_alloc_new _ _) (fun j v hj => by simpa [opCells] using hj)) (by omega) (Nat.le_trans hsz (by simp)) ?_
             intro v6 w6 hw6 hk6 ho6
             have hwb6 := Win.kp (Win.below HWV.out hbA) hk6 (fun g hg e => Win.apart (Win.below HW.out hbA) (Win.below HWV.out hbA) (by decide) g e hg)
             have hB6 : Below w1.heap.size w1 w6 := (hb.trans (hbA.mono hsz)).trans (hk6.toBelow (Nat.le_trans hsz hbA.size) (fun g hg e => absurd (Win.block HW.out g e).1 (by omega)))
             have hov : OpsV w1 w6 w1.heap.size 56 v6 (ops ++ [⟨true, f, k, []⟩]) := OpsV.snoc (Ad := none) (cd := 0) HV.out HDS.out (by simp) (by simp) (Sl.nil _ _) hw6
             have HOV := Lib.hid hov; have HWB := Lib.hid hwb6
             clear hov hwb6 hw6))
        go_roundw
        case rel => exact ⟨ops ++ [⟨true, f, k, []⟩], want, false, n + k, i + 2, rfl, by go_num, by go_num, by omega, by simp; omega, by omega, by omega, HS.out.bad HOK.out (by omega), HOV.out, HWB.out, hB6⟩
        case measure => simp [intOf]; omega
    · have q4 : decide ((i : Int) + 1 < (l.length : Int)) = false := decide_eq_false (by omega)
      obtain ⟨A5, c5, rfl, hc5, _, hO5⟩ := OpsV.reads hops hb
      obtain ⟨A6, c6, rfl, hc6, _, hr6⟩ := WinB.readsN (n := want.length) hwv rfl
      have hel := encs_len ops hS.1
      have p1 : printR base.length n ops = (putSize base.length ++ putSize n ++ encs ops, 0) := printR_good (by omega) hS.1
      have a1 : ok = true → applyD base (putSize base.length ++ putSize n ++ encs ops) 16384 = (want, 0) := fun h => by rw [hS.apply (by omega) (by omega), if_pos h]
      have a2 : ok = false → applyD base (putSize base.length ++ putSize n ++ encs ops) 16384 = ([], 2) := fun h => by rw [hS.apply (by omega) (by omega), if_neg (by simp [h])]
      have l1 := putSize_len base.length 2 (by omega) (by decide)
      have l2 := putSize_len n 3 (by omega) (by decide)
      obtain ⟨dm, hdm⟩ : ∃ dm, dm = putSize base.length ++ putSize n ++ encs ops := ⟨_, rfl⟩
      have dl : dm.length ≤ 10000 := by rw [hdm, List.length_append, List.length_append]; omega
      rw [← hdm] at p1 a1 a2
      obtain ⟨m, hm⟩ : ∃ m, m = dm.length := ⟨_, rfl⟩
      have P1 := Lib.hid p1; have R1 := Lib.hid a1; have R2 := Lib.hid a2; have DL := Lib.hid dl; have HM := Lib.hid hm; have HO5 := Lib.hid hO5; have HR6 := Lib.hid hr6; have HA := Lib.hid hA
      clear p1 a1 a2 dl hm hdm hO5 hr6 hops hwv hS l1 l2 hA hel hA1
      cases ok with
      | true =>
        have RT := Lib.hid (R1.out rfl)
        clear R1 R2
        go_wp2_with (first
          | (go_at_call 27; (with_reducible refine (print27 base.length n A5 ops.length c5 ops wr _ (by omega) (by omega) (by omega) HO5.out rfl P1.out).mono ?_); rintro e w8 ⟨v8, rfl, hw8, hb8⟩
             obtain ⟨A8, c8, rfl, hc8, _, hr8⟩ := WinB.readsN (n := m) hw8 HM.out.symm
             have B8 := hB.trans (hb8.mono hB.size))
          | (go_at_call 33; (with_reducible refine (apply33 A c base A8 m c8 dm 16384 w8 _ (by omega) hc (Sl.below HA.out B8) HM.out (by have := DL.out; omega) hc8 hr8 (by omega) RT.out).mono ?_); rintro e w9 ⟨v9, rfl, hw9, hb9⟩
             obtain ⟨A9, c9, rfl, _, _, hr9⟩ := WinB.readsN (n := want.length) hw9 rfl
             have B9 := B8.trans (hb9.mono B8.size)
             have e1 : (convert 22 9 (.slice A9 want.length c9)).run Try.prog w9 = .ok (.string (bstr want)) w9 := conv22 hr9 rfl
             have e2 : (convert 22 9 (.slice A6 want.length c6)).run Try.prog w9 = .ok (.string (bstr want)) w9 := conv22 (Sl.below HR6.out (hb8.trans (hb9.mono hb8.size))) rfl))
        go_ret
        exact ⟨rfl, B9⟩
      | false =>
        have RT := Lib.hid (R2.out rfl)
        clear R1 R2
        go_wp2_with (first
          | (go_at_call 27; (with_reducible refine (print27 base.length n A5 ops.length c5 ops wr _ (by omega) (by omega) (by omega) HO5.out rfl P1.out).mono ?_); rintro e w8 ⟨v8, rfl, hw8, hb8⟩
             obtain ⟨A8, c8, rfl, hc8, _, hr8⟩ := WinB.readsN (n := m) hw8 HM.out.symm
             have B8 := hB.trans (hb8.mono hB.size))
          | (go_at_call 33; (with_reducible refine (apply33 A c base A8 m c8 dm 16384 w8 _ (by omega) hc (Sl.below HA.out B8) HM.out (by have := DL.out; omega) hc8 hr8 (by omega) RT.out).mono ?_); rintro e w9 ⟨v9, rfl, hw9, hb9⟩
             obtain ⟨A9, c9, rfl, _, _, hr9⟩ := WinB.readsN (n := 0) hw9 rfl
             have B9 := B8.trans (hb9.mono B8.size)))
        go_ret
        exact ⟨rfl, B9⟩
end Go.Proofs.Ytpfjkappgdpfbaa
