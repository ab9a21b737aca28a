/- The laws' and the reference's words on steps: of, same, wrong, right, ContainsFunc(wrong). No condition but on lengths. -/
import Derived.Test.YtpfjkappgdpfbaaDelY
namespace Go.Proofs.Ytpfjkappgdpfbaa
open Go.RowKit
set_option maxRecDepth 100000
set_option maxHeartbeats 4000000
abbrev opV (o : DOp) (d : Value) : Value := .agg #[.bool o.cp, .int .i64 o.fr, .int .i64 o.n, d]
theorem okOp_cp {o : DOp} (h : o.cp = true) : okOp o ↔ (¬ o.fr < 0 ∧ ¬ 4294967295 < o.fr ∧ ¬ o.n < 1 ∧ ¬ 65536 < o.n ∧ ¬ 0 < o.data.length) := by
  unfold okOp
  rw [if_pos h]
  constructor
  · rintro ⟨h1, h2, h3, h4, h5⟩
    refine ⟨by omega, by omega, by omega, by omega, by rw [h5]; decide⟩
  · rintro ⟨h1, h2, h3, h4, h5⟩
    exact ⟨by omega, by omega, by omega, by omega, List.eq_nil_of_length_eq_zero (by omega)⟩
theorem okOp_in {o : DOp} (h : o.cp = false) : okOp o ↔ (¬ o.data.length < 1 ∧ ¬ 127 < o.data.length ∧ o.fr = 0 ∧ o.n = 0) := by
  unfold okOp
  rw [if_neg (by simp [h])]
  constructor
  · rintro ⟨h1, h2, h3, h4⟩
    exact ⟨by omega, by omega, h3, h4⟩
  · rintro ⟨h1, h2, h3, h4⟩
    exact ⟨by omega, by omega, h3, h4⟩
theorem wrong_any (o : DOp) (Ad : Option Addr) (cd : Nat) (w : World) :
    Calls Try.prog 41 #[opV o (.slice Ad o.data.length cd)] w fun e w' => e = .returned (.bool (!decide (okOp o))) ∧ Below w.heap.size w w' := by
  have hb : ∀ u, Below w.heap.size w (w.alloc u) := fun u => (Below.refl _ _).alloc (Nat.le_refl _) u
  cases hcp : o.cp with
  | true =>
    have hok := okOp_cp hcp
    by_cases t1 : o.fr < 0
    · have q1 : decide (o.fr < 0) = true := decide_eq_true t1
      have hf : decide (okOp o) = false := decide_eq_false (fun h => (hok.1 h).1 t1)
      have HF := Lib.hid hf; clear hf hok
      go_enter Try.func41, Try.ntmps41
      go_wp2
      go_ret
      exact ⟨by rw [HF.out]; rfl, hb _⟩
    have q1 : decide (o.fr < 0) = false := decide_eq_false t1
    by_cases t2 : 4294967295 < o.fr
    · have q2 : decide (4294967295 < o.fr) = true := decide_eq_true t2
      have hf : decide (okOp o) = false := decide_eq_false (fun h => (hok.1 h).2.1 t2)
      have HF := Lib.hid hf; clear hf hok
      go_enter Try.func41, Try.ntmps41
      go_wp2
      go_ret
      exact ⟨by rw [HF.out]; rfl, hb _⟩
    have q2 : decide (4294967295 < o.fr) = false := decide_eq_false t2
    by_cases t3 : o.n < 1
    · have q3 : decide (o.n < 1) = true := decide_eq_true t3
      have hf : decide (okOp o) = false := decide_eq_false (fun h => (hok.1 h).2.2.1 t3)
      have HF := Lib.hid hf; clear hf hok
      go_enter Try.func41, Try.ntmps41
      go_wp2
      go_ret
      exact ⟨by rw [HF.out]; rfl, hb _⟩
    have q3 : decide (o.n < 1) = false := decide_eq_false t3
    by_cases t4 : 65536 < o.n
    · have q4 : decide (65536 < o.n) = true := decide_eq_true t4
      have hf : decide (okOp o) = false := decide_eq_false (fun h => (hok.1 h).2.2.2.1 t4)
      have HF := Lib.hid hf; clear hf hok
      go_enter Try.func41, Try.ntmps41
      go_wp2
      go_ret
      exact ⟨by rw [HF.out]; rfl, hb _⟩
    have q4 : decide (65536 < o.n) = false := decide_eq_false t4
    by_cases t5 : 0 < o.data.length
    · have hf : decide (okOp o) = false := decide_eq_false (fun h => (hok.1 h).2.2.2.2 t5)
      have HF := Lib.hid hf; clear hf hok
      go_enter Try.func41, Try.ntmps41
      go_wp2
      go_ret
      exact ⟨by rw [HF.out]; rfl, hb _⟩
    have hf : decide (okOp o) = true := decide_eq_true (hok.2 ⟨t1, t2, t3, t4, t5⟩)
    have HF := Lib.hid hf; clear hf hok
    go_enter Try.func41, Try.ntmps41
    go_wp2
    go_ret
    exact ⟨by rw [HF.out]; rfl, hb _⟩
  | false =>
    have hok := okOp_in hcp
    by_cases t1 : o.data.length < 1
    · have hf : decide (okOp o) = false := decide_eq_false (fun h => (hok.1 h).1 t1)
      have HF := Lib.hid hf; clear hf hok
      go_enter Try.func41, Try.ntmps41
      go_wp2
      go_ret
      exact ⟨by rw [HF.out]; rfl, hb _⟩
    have q1 : decide ((o.data.length : Int) < 1) = false := decide_eq_false (by omega)
    by_cases t2 : 127 < o.data.length
    · have hf : decide (okOp o) = false := decide_eq_false (fun h => (hok.1 h).2.1 t2)
      have HF := Lib.hid hf; clear hf hok
      go_enter Try.func41, Try.ntmps41
      go_wp2
      go_ret
      exact ⟨by rw [HF.out]; rfl, hb _⟩
    have q2 : decide (127 < (o.data.length : Int)) = false := decide_eq_false (by omega)
    by_cases t3 : o.fr = 0
    · have q3 : (o.fr != 0) = false := by simp [t3]
      by_cases t4 : o.n = 0
      · have q4 : (o.n != 0) = false := by simp [t4]
        have hf : decide (okOp o) = true := decide_eq_true (hok.2 ⟨t1, t2, t3, t4⟩)
        have HF := Lib.hid hf; clear hf hok
        clear t3 t4
        go_enter Try.func41, Try.ntmps41
        go_wp2
        go_ret
        exact ⟨by rw [HF.out]; rfl, hb _⟩
      · have q4 : (o.n != 0) = true := by simp [t4]
        have hf : decide (okOp o) = false := decide_eq_false (fun h => t4 (hok.1 h).2.2.2)
        have HF := Lib.hid hf; clear hf hok
        clear t3 t4
        go_enter Try.func41, Try.ntmps41
        go_wp2
        go_ret
        exact ⟨by rw [HF.out]; rfl, hb _⟩
    · have q3 : (o.fr != 0) = true := by simp [t3]
      have hf : decide (okOp o) = false := decide_eq_false (fun h => t3 (hok.1 h).2.2.1)
      have HF := Lib.hid hf; clear hf hok
      clear t3
      go_enter Try.func41, Try.ntmps41
      go_wp2
      go_ret
      exact ⟨by rw [HF.out]; rfl, hb _⟩
theorem right_any (o : DOp) (Ad : Option Addr) (cd : Nat) (w : World) :
    Calls Try.prog 47 #[opV o (.slice Ad o.data.length cd)] w fun e w' => e = .returned (.bool (decide (okOp o))) ∧ Below w.heap.size w w' := by
  have hb : ∀ u, Below w.heap.size w (w.alloc u) := fun u => (Below.refl _ _).alloc (Nat.le_refl _) u
  cases hcp : o.cp with
  | true =>
    have hok := okOp_cp hcp
    by_cases t1 : o.fr < 0
    · have q1 : decide (0 ≤ o.fr) = false := decide_eq_false (by omega)
      have hf : decide (okOp o) = false := decide_eq_false (fun h => (hok.1 h).1 t1)
      have HF := Lib.hid hf; clear hf hok
      go_enter Try.func47, Try.ntmps47
      go_wp2
      go_ret
      exact ⟨by rw [HF.out]; rfl, hb _⟩
    have q1 : decide (0 ≤ o.fr) = true := decide_eq_true (by omega)
    by_cases t2 : 4294967295 < o.fr
    · have q2 : decide (o.fr < 4294967296) = false := decide_eq_false (by omega)
      have hf : decide (okOp o) = false := decide_eq_false (fun h => (hok.1 h).2.1 t2)
      have HF := Lib.hid hf; clear hf hok
      go_enter Try.func47, Try.ntmps47
      go_wp2
      go_ret
      exact ⟨by rw [HF.out]; rfl, hb _⟩
    have q2 : decide (o.fr < 4294967296) = true := decide_eq_true (by omega)
    by_cases t3 : o.n < 1
    · have q3 : decide (1 ≤ o.n) = false := decide_eq_false (by omega)
      have hf : decide (okOp o) = false := decide_eq_false (fun h => (hok.1 h).2.2.1 t3)
      have HF := Lib.hid hf; clear hf hok
      go_enter Try.func47, Try.ntmps47
      go_wp2
      go_ret
      exact ⟨by rw [HF.out]; rfl, hb _⟩
    have q3 : decide (1 ≤ o.n) = true := decide_eq_true (by omega)
    by_cases t4 : 65536 < o.n
    · have q4 : decide (o.n ≤ 65536) = false := decide_eq_false (by omega)
      have hf : decide (okOp o) = false := decide_eq_false (fun h => (hok.1 h).2.2.2.1 t4)
      have HF := Lib.hid hf; clear hf hok
      go_enter Try.func47, Try.ntmps47
      go_wp2
      go_ret
      exact ⟨by rw [HF.out]; rfl, hb _⟩
    have q4 : decide (o.n ≤ 65536) = true := decide_eq_true (by omega)
    by_cases t5 : 0 < o.data.length
    · have q5 : ((o.data.length : Int) == 0) = false := beq_eq_false_iff_ne.2 (by omega)
      have hf : decide (okOp o) = false := decide_eq_false (fun h => (hok.1 h).2.2.2.2 t5)
      have HF := Lib.hid hf; clear hf hok
      go_enter Try.func47, Try.ntmps47
      go_wp2
      go_ret
      exact ⟨by rw [HF.out]; rfl, hb _⟩
    have q5 : ((o.data.length : Int) == 0) = true := beq_iff_eq.2 (by omega)
    have hf : decide (okOp o) = true := decide_eq_true (hok.2 ⟨t1, t2, t3, t4, t5⟩)
    have HF := Lib.hid hf; clear hf hok
    go_enter Try.func47, Try.ntmps47
    go_wp2
    go_ret
    exact ⟨by rw [HF.out]; rfl, hb _⟩
  | false =>
    have hok := okOp_in hcp
    by_cases t3 : ¬ o.fr = 0
    · have q3 : (o.fr == 0) = false := by simp; omega
      have hf : decide (okOp o) = false := decide_eq_false (fun h => t3 (hok.1 h).2.2.1)
      have HF := Lib.hid hf; clear hf hok
      go_enter Try.func47, Try.ntmps47
      go_wp2
      go_ret
      exact ⟨by rw [HF.out]; rfl, hb _⟩
    have q3 : (o.fr == 0) = true := by simp; omega
    by_cases t4 : ¬ o.n = 0
    · have q4 : (o.n == 0) = false := by simp; omega
      have hf : decide (okOp o) = false := decide_eq_false (fun h => t4 (hok.1 h).2.2.2)
      have HF := Lib.hid hf; clear hf hok
      go_enter Try.func47, Try.ntmps47
      go_wp2
      go_ret
      exact ⟨by rw [HF.out]; rfl, hb _⟩
    have q4 : (o.n == 0) = true := by simp; omega
    by_cases t1 : o.data.length < 1
    · have q1 : decide (1 ≤ (o.data.length : Int)) = false := decide_eq_false (by omega)
      have hf : decide (okOp o) = false := decide_eq_false (fun h => (hok.1 h).1 t1)
      have HF := Lib.hid hf; clear hf hok
      go_enter Try.func47, Try.ntmps47
      go_wp2
      go_ret
      exact ⟨by rw [HF.out]; rfl, hb _⟩
    have q1 : decide (1 ≤ (o.data.length : Int)) = true := decide_eq_true (by omega)
    by_cases t2 : 127 < o.data.length
    · have q2 : decide ((o.data.length : Int) ≤ 127) = false := decide_eq_false (by omega)
      have hf : decide (okOp o) = false := decide_eq_false (fun h => (hok.1 h).2.1 t2)
      have HF := Lib.hid hf; clear hf hok
      go_enter Try.func47, Try.ntmps47
      go_wp2
      go_ret
      exact ⟨by rw [HF.out]; rfl, hb _⟩
    have q2 : decide ((o.data.length : Int) ≤ 127) = true := decide_eq_true (by omega)
    have hf : decide (okOp o) = true := decide_eq_true (hok.2 ⟨t1, t2, Decidable.of_not_not t3, Decidable.of_not_not t4⟩)
    have HF := Lib.hid hf; clear hf hok
    go_enter Try.func47, Try.ntmps47
    go_wp2
    go_ret
    exact ⟨by rw [HF.out]; rfl, hb _⟩
theorem indexFunc_any (A : Option Addr) (c : Nat) (l : List DOp) (w : World) (hl : l.length ≤ 1099511627776) (hA : OpsR w A l) :
    Calls Try.prog 60 #[.slice A l.length c, .func (.func 41) #[] #[]] w fun e w' => ∃ i : Int, e = .returned (.int .i64 i) ∧ -1 ≤ i ∧ i ≤ l.length ∧ decide (0 ≤ i) = (!decide (∀ o ∈ l, okOp o)) ∧ Below w.heap.size w w' := by
  go_enter Try.func60, Try.ntmps60
  go_wp2
  go_loopw [8] (fun t8 wr => ∃ k : Nat, t8 = .int .i64 k ∧ k ≤ l.length ∧ (∀ o ∈ l.take k, okOp o) ∧ Below w.heap.size w wr) (fun t8 _ => l.length - (intOf t8).toNat)
  case atStart => exact ⟨0, rfl, by omega, by simp, Below.refl _ _⟩
  case round =>
    obtain ⟨k, rfl, hk, hok, hb⟩ := hrel
    have HOK := Lib.hid hok; clear hok
    by_cases hlt : k < l.length
    · obtain ⟨ad, Ad, cd, rfl, hcells, hcd, hmd, hdata⟩ := (hA.below hb) k l[k] (by simp [hlt])
      have hcl := Lib.hid hcells; clear hcells
      have hw := wrong_any l[k] Ad cd wr
      by_cases ho : okOp l[k]
      · rw [decide_eq_true ho] at hw
        have HO := Lib.hid ho; clear ho
        go_wp2_with (first
          | (refine wpList_load_agg rfl 37 (.tmp 14) rfl (ad.add (k * 4)) rfl (opCells (.slice Ad l[k].data.length cd) l[k]) _ hcl.out Try.underlying37 rfl (by kernel_rfl) ?_; rw [opCells_at])
          | (go_at_call 41; (with_reducible refine hw.mono ?_); rintro e w1 ⟨rfl, hb1⟩))
        go_roundw
        case rel =>
          refine ⟨k + 1, by go_num, by omega, ?_, hb.trans (hb1.mono hb.size)⟩
          intro o hm
          rw [List.take_succ_eq_append_getElem hlt, List.mem_append] at hm
          rcases hm with hm | hm
          · exact HOK.out o hm
          · simp at hm; rw [hm]; exact HO.out
        case measure => simp [intOf]; omega
      · rw [decide_eq_false ho] at hw
        have HO := Lib.hid ho; clear ho
        go_wp2_with (first
          | (refine wpList_load_agg rfl 37 (.tmp 14) rfl (ad.add (k * 4)) rfl (opCells (.slice Ad l[k].data.length cd) l[k]) _ hcl.out Try.underlying37 rfl (by kernel_rfl) ?_; rw [opCells_at])
          | (go_at_call 41; (with_reducible refine hw.mono ?_); rintro e w1 ⟨rfl, hb1⟩))
        go_ret
        refine ⟨k, rfl, by omega, by omega, ?_, hb.trans (hb1.mono hb.size)⟩
        rw [decide_eq_true (by omega), decide_eq_false (fun h => HO.out (h _ (List.getElem_mem hlt)))]; rfl
    · obtain rfl : k = l.length := by omega
      go_wp2
      go_ret
      refine ⟨-1, rfl, by omega, by omega, ?_, hb⟩
      have := HOK.out
      rw [List.take_length] at this
      rw [decide_eq_true this]; rfl
theorem containsFunc_any (A : Option Addr) (c : Nat) (l : List DOp) (w : World) (hl : l.length ≤ 1099511627776) (hA : OpsR w A l) :
    Calls Try.prog 40 #[.slice A l.length c, .func (.func 41) #[] #[]] w fun e w' => e = .returned (.bool (!decide (∀ o ∈ l, okOp o))) ∧ Below w.heap.size w w' := by
  have k1 := indexFunc_any A c l w hl hA
  go_enter Try.func40, Try.ntmps40
  go_wp2_with (go_at_call 60; (with_reducible refine k1.mono ?_); rintro e w1 ⟨i, rfl, hi0, hi1, hi, hb1⟩; have HI := Lib.hid hi; clear hi)
  go_ret
  exact ⟨by rw [← HI.out]; rfl, hb1⟩
end Go.Proofs.Ytpfjkappgdpfbaa
