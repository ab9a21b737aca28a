/- Quiet operations that read: a value in every world of the class. No condition.
   The reference's Open: openI. Conditions: at most 2^30 bytes.
   ObjectNames: canonical bytes, names, what they are opened to; bytes opened; kinds. Conditions: what the library's variables hold; rows that came in. -/
import Derived.Test.YtcedfapcpmedfaaGreatDoorKa
import Derived.Test.YtcedfapcpmedfaaGreatDoorKg
import Derived.Test.YtcedfapcpmedfaaGreatDoorKh
namespace Go.Proofs.YtcedfapcpmedfaaGreatDoor
section
open Go.RowKit
set_option linter.unusedVariables false
variable {P : Program} {ops : Array Oper} {C : World → Prop}
theorem wpQuiet_run {rest : List Oper} {o : Oper} {Q : Act → Prop} {l : List Value} {df : List Deferred} (d : Nat) (hd : o.dst = some d) (hw : Region.wanted o (yielded ops l.toArray) = true) (v : Value) (hr : ∀ w, C w → (execOp (Act.eval ⟨l.toArray, df⟩) o).run P w = .ok (.value v) w)
    (h : wpQuiet P ops C Q rest ⟨(l.set d v).toArray, df⟩) : wpQuiet P ops C Q (o :: rest) ⟨l.toArray, df⟩ := by
  refine wpQuiet_step fun K hK => ?_
  rw [if_pos (by rw [show (⟨l.toArray, df⟩ : Act).tmps = l.toArray from rfl, hw])]
  refine ⟨v, fun w hC => ?_, ?_⟩
  · unfold Oper.quietAt
    rw [hr w hC]
    exact ⟨rfl, rfl⟩
  · have : (Act.put ⟨l.toArray, df⟩ o.dst v) = ⟨(l.set d v).toArray, df⟩ := by
      simp [Act.put, hd]
    rw [this]
    exact hK _ h
theorem wpQuiet_conv {rest : List Oper} {o : Oper} {Q : Act → Prop} {l : List Value} {df : List Deferred} (t u : TypeId) (x : Operand) (ho : o.op = .convert t u x) (v : Value) (hr : ∀ w, C w → (convert t u (Act.eval ⟨l.toArray, df⟩ x)).run P w = .ok v w)
    (d : Nat) (hd : o.dst = some d) (hw : Region.wanted o (yielded ops l.toArray) = true) (h : wpQuiet P ops C Q rest ⟨(l.set d v).toArray, df⟩) : wpQuiet P ops C Q (o :: rest) ⟨l.toArray, df⟩ :=
  wpQuiet_run d hd hw v (fun w hC => by
    unfold execOp
    simp only [ho, Sem.run_bind, hr w hC, Result.andThen_ok, Sem.run_pure]) h
theorem wpQuiet_sliceH {rest : List Oper} {o : Oper} {Q : Act → Prop} {l : List Value} {df : List Deferred} (ty : TypeId) (x b : Operand) (ho : o.op = .slice ty x none (some b) none) (hT : P.underlying ty = some (.slice (P.elem ty))) (A : Option Addr) (n c : Nat) (hx : Act.eval ⟨l.toArray, df⟩ x = .slice A n c) (v : Value)
    (hr : ∀ w, (Instr.slice ty (.slice A n c) none (some (Act.eval ⟨l.toArray, df⟩ b)) none).run P w = .ok v w) (d : Nat) (hd : o.dst = some d) (hw : Region.wanted o (yielded ops l.toArray) = true)
    (h : wpQuiet P ops C Q rest ⟨(l.set d v).toArray, df⟩) : wpQuiet P ops C Q (o :: rest) ⟨l.toArray, df⟩ :=
  wpQuiet_run d hd hw v (fun w _ => by
    unfold execOp
    simp only [ho, hx, Option.map_some, Option.map_none, Sem.run_bind, run_sliceAt_slice (h := hT), hr w, Result.andThen_ok, Sem.run_pure]) h
end
section
open Go.RowKit
set_option maxRecDepth 100000
set_option maxHeartbeats 1000000
set_option linter.unusedVariables false
theorem dec_small : ∀ (k n : Nat), n < 10 ^ (k + 1) → (Lib.decDigits n).length ≤ k + 1
  | 0, n, h => by rw [Lib.decDigits_one (by simpa using h)]; simp
  | k + 1, n, h => by
    by_cases h10 : n < 10
    · rw [Lib.decDigits_one h10]; simp
    · rw [Lib.decDigits, dif_neg h10, List.length_append, List.length_singleton]
      have := dec_small k (n / 10) (by rw [Nat.pow_succ] at h; omega)
      omega
theorem head_lt (k : Nat) (n : Nat) (hk : 1 ≤ k ∧ k ≤ 4) (hn : n ≤ 1073741824) : (headI k n).length < 32 := by
  have h1 : (wordI (k : Int)).length ≤ 6 := by
    rcases (by omega : k = 1 ∨ k = 2 ∨ k = 3 ∨ k = 4) with rfl | rfl | rfl | rfl <;> decide
  have h2 := dec_small 9 n (by omega)
  unfold headI
  rw [List.length_append, List.length_cons]
  omega
theorem head_inj {j k : Nat} {n : Nat} (h : headI j n = headI k n) (hj : wordI j ≠ []) (hk : wordI k ≠ []) : j = k := by
  have h1 : Lib.cut (headI j n) [32] = (wordI j, Lib.decDigits n, true) := cut_yes _ (fun e => (word_sign j 32 e).2 rfl)
  have h2 : Lib.cut (headI k n) [32] = (wordI k, Lib.decDigits n, true) := cut_yes _ (fun e => (word_sign k 32 e).2 rfl)
  rw [h, h2] at h1
  injection h1 with h1 _
  have a := kind_word j hj
  rw [← h1, kind_word k hk] at a
  injection a with a _
  exact a.symm
/-- no first part of the bytes, up to a nought, is a head -/
theorem open_none {c : List UInt8} (h : ∀ (k : Nat) (b : List UInt8), 1 ≤ k → k ≤ 4 → c ≠ headI k b.length ++ 0 :: b) : openI c = (0, [], 2) := by
  rcases open_some c with ⟨k, b, hk, e⟩ | e
  · exfalso
    have : 1 ≤ k ∧ k ≤ 4 := by
      have h2 := (kind_some (kind_word k hk)).2
      omega
    exact h k b this.1 this.2 e
  · exact e
theorem open_head (k : Nat) (b : List UInt8) (h1 : 1 ≤ k) (h4 : k ≤ 4) : openI (headI k b.length ++ 0 :: b) = if 16384 < b.length then (0, [], 5) else (k, b, 0) := by
  have hw : wordI (k : Int) ≠ [] := by
    rcases (by omega : k = 1 ∨ k = 2 ∨ k = 3 ∨ k = 4) with rfl | rfl | rfl | rfl <;> decide
  have := open_canon k b hw
  unfold canonI at this
  rwa [if_neg hw] at this
/-- where the first nought stands, if it stands among the first 32 -/
theorem head_at {c b : List UInt8} {k i : Nat} (h1 : 1 ≤ k ∧ k ≤ 4) (hb : b.length ≤ 1073741824) (e : c = headI k b.length ++ 0 :: b) (hno : (0 : UInt8) ∉ c.take i) (hi : i ≤ c.length) (hend : i = c.length ∨ c[i]? = some 0 ∨ i = 32) : i = (headI k b.length).length := by
  have hlt := head_lt k b.length h1 hb
  have hno0 := head_no0 k b.length
  have hz : c[(headI k b.length).length]? = some 0 := by rw [e]; simp
  rcases Nat.lt_trichotomy i (headI k b.length).length with h | h | h
  · exfalso
    rcases hend with h2 | h2 | h2
    · rw [h2, e] at h; simp at h; omega
    · rw [e, List.getElem?_append_left h] at h2
      exact hno0 (List.mem_of_getElem? h2)
    · omega
  · exact h
  · exfalso
    apply hno
    rw [List.mem_take_iff_getElem]
    refine ⟨(headI k b.length).length, ?_, ?_⟩
    · have := (List.getElem?_eq_some_iff.1 hz).1
      omega
    · exact (List.getElem?_eq_some_iff.1 hz).2
theorem appN {w : World} {ops : Array Oper} {rest : List Oper} {o : Oper} {a : Act} {Q : Exit → Act → World → Prop} (hgd : o.guard = none) (s x : Operand)
    (ho : o.op = .call { callee := .builtin .append, args := #[s, x], argTypes := #[22, 22] })
    (B : Nat) (v : Value) (l : List UInt8) (hs : a.eval s = v) (hown : WinB w B 5 v l) (A : Option Addr) (c n : Nat) (m : List UInt8) (hn : n = m.length) (hx : a.eval x = .slice A n c) (hA : Bs w A m)
    (hb : l.length + n ≤ 140737488351232) (hB : B ≤ w.heap.size)
    (h : ∀ v' w', WinB w' B 5 v' (l ++ m) → Kp (fun k => v.ownBlock = some k) w w' → (v'.ownBlock = v.ownBlock ∨ v'.ownBlock = some w.heap.size) → wpList Tryz.prog ops Q rest (a.put o.dst v') w') : wpList Tryz.prog ops Q (o :: rest) a w := by
  subst hn
  exact appW34 hgd s x ho B v l hs hown A c m hx hA hb hB h
theorem openR_any (x : List UInt8) (hx : x.length ≤ 1073741824) (A : Option Addr) (c : Nat) (hc : x.length ≤ c) (w : World) (hA : Bs w A x) :
    Calls Tryz.prog 19 #[.slice A x.length c] w (OutO (openI x).1 (openI x).2.1 (openI x).2.2 w) := by
  obtain ⟨n, hn⟩ : ∃ n, n = x.length := ⟨_, rfl⟩
  rw [← hn]
  have hn1 : n ≤ 1073741824 := by omega
  have HN := Lib.hid hn; have HA := Lib.hid hA; have HC := Lib.hid hc
  clear hn hx hA hc
  go_enter Tryz.func19, Tryz.ntmps19
  go_wp2
  go_loopw [5] (fun t5 wr => ∃ i : Nat, t5 = .int .i64 (i : Int) ∧ i ≤ n ∧ i ≤ 32 ∧ Hid ((0 : UInt8) ∉ x.take i) ∧ wr = w) (fun t5 _ => (32 - intOf t5).toNat)
  case atStart => exact ⟨0, rfl, by omega, by omega, Lib.hid (by simp), rfl⟩
  case round =>
    obtain ⟨i, rfl, hi, h32, HNO, rfl⟩ := hrel
    have hxl := HN.out
    by_cases hin : i < n
    · have hil : i < x.length := by omega
      obtain ⟨ad, rfl, hcell⟩ := HA.out.at (j := i) hil
      have hgetS : x[i]? = some x[i] := List.getElem?_eq_getElem hil
      have htk : x.take (i + 1) = x.take i ++ [x[i]] := List.take_succ_eq_append_getElem hil
      have hdr : x = x.take i ++ x[i] :: x.drop (i + 1) := by rw [← List.drop_eq_getElem_cons hil]; exact (List.take_append_drop i x).symm
      obtain ⟨y, hy⟩ : ∃ y, y = x[i] := ⟨_, rfl⟩
      rw [← hy] at hcell hgetS htk hdr
      have HG := Lib.hid hgetS; have HTK := Lib.hid htk; have HDR := Lib.hid hdr
      clear hgetS htk hdr hy hil
      by_cases h0 : y = 0
      · subst h0
        obtain ⟨wo, rfl⟩ : ∃ wo : World, wo = wr := ⟨_, rfl⟩
        obtain ⟨hd, hhd⟩ : ∃ hd, hd = x.take i := ⟨_, rfl⟩
        obtain ⟨b, hb⟩ : ∃ b, b = x.drop (i + 1) := ⟨_, rfl⟩
        have hdr := HDR.out
        rw [← hhd, ← hb] at hdr
        have hdl : hd.length = i := by rw [hhd, List.length_take]; omega
        have hbl : b.length = n - (i + 1) := by rw [hb, List.length_drop, ← hxl]
        obtain ⟨m, hm⟩ : ∃ m, m = n - (i + 1) := ⟨_, rfl⟩
        have s1 : ∀ w, (Instr.slice 22 (.slice (some ad) n c) (some (.int .i64 ((i : Int) + 1))) none none).run Tryz.prog w = .ok (.slice (cutA (some ad) c (i + 1) 1) (n - (i + 1)) (c - (i + 1))) w := slice_fromB (some ad) n c (i + 1) (by omega)
        have s2 := slice_toB (some ad) n c i (by have := HC.out; omega)
        have hbs : Bs wo (cutA (some ad) c (i + 1) 1) b := by rw [hb]; exact Bs.cut HA.out (i + 1) c HC.out
        have hhs : Bs wo (some ad) hd := by rw [hhd]; exact Bs.take HA.out i
        have hno : (0 : UInt8) ∉ hd := by rw [hhd]; exact HNO.out
        rw [← hm] at hbl s1
        obtain ⟨A2, hA2⟩ : ∃ A2, A2 = cutA (some ad) c (i + 1) 1 := ⟨_, rfl⟩
        obtain ⟨c2, hc2⟩ : ∃ c2, c2 = c - (i + 1) := ⟨_, rfl⟩
        rw [← hA2] at s1 hbs
        rw [← hc2] at s1
        have hmc : m ≤ c2 := by have := HC.out; omega
        have hmn : m ≤ 1073741824 := by omega
        have HH := Lib.hid hdr; have HHL := Lib.hid hdl; have HBL := Lib.hid hbl; have HBS := Lib.hid hbs; have HHS := Lib.hid hhs; have HNO2 := Lib.hid hno; have HMC := Lib.hid hmc
        clear hhd hb hdr hdl hbl hm hbs hhs hno hA2 hc2 HDR HG HTK HNO hmc hxl
        go_wp2
        go_loopw [7] (fun t7 w2 => ∃ k : Nat, t7 = .int .i64 (k : Int) ∧ 1 ≤ k ∧ k ≤ 5 ∧ Hid (∀ j : Nat, 1 ≤ j → j < k → hd ≠ headI (j : Int) m) ∧ Below wo.heap.size wo w2) (fun t7 _ => (5 - intOf t7).toNat)
        case atStart => exact ⟨1, rfl, by omega, by omega, Lib.hid (fun j h1 h2 => by omega), Below.refl _ _⟩
        case round =>
          obtain ⟨k, rfl, hk1, hk5, HJ, hbw⟩ := hrel
          by_cases hk4 : k ≤ 4
          · obtain ⟨e1, he1⟩ : ∃ e1, e1 = decide (hd = headI (k : Int) m) := ⟨_, rfl⟩
            have hwl : (wordI (k : Int)).length ≤ 6 := by
              rcases (by omega : k = 1 ∨ k = 2 ∨ k = 3 ∨ k = 4) with rfl | rfl | rfl | rfl <;> decide
            have hdl2 := dec_small 9 m (by omega)
            have kw : ∀ w', Below wr.heap.size wr w' → Calls Tryz.prog 17 #[.int .i64 (k : Int)] w' fun e w'' => e = .returned (.string (bstr (wordI (k : Int)))) ∧ Below wr.heap.size wr w'' := fun w' h => quietS h (owordR_any (k : Int) w')
            have kd : ∀ w', Below wr.heap.size wr w' → Calls Tryz.prog 54 #[.int .i64 (m : Int)] w' fun e w'' => e = .returned (.string (bstr (Lib.decDigits m))) ∧ Below wr.heap.size wr w'' := fun w' h => quietB h (decimal_any m hmn w')
            have kc : ∀ w', Below wr.heap.size wr w' → (convert 22 9 (.slice (some ad) i c)).run Tryz.prog w' = .ok (.string (bstr hd)) w' := fun w' h => conv34 ((HHS.out.below hbw).below h) HHL.out.symm
            have hq2 : (hd == headI (k : Int) m) = e1 := by
              rw [he1]
              by_cases h : hd = headI (k : Int) m
              · rw [decide_eq_true h]; simpa using h
              · rw [decide_eq_false h]; simpa using h
            have hq : (bstr hd == bstr (headI (k : Int) m)) = e1 := by
              rw [he1]
              by_cases h : hd = headI (k : Int) m
              · rw [decide_eq_true h]; exact bstr_eq h
              · rw [decide_eq_false h]; exact bstr_ne h
            have heq : (bstr (wordI (k : Int)) ++ ⟨#[32]⟩ ++ bstr (Lib.decDigits m) : ByteArray) = bstr (headI (k : Int) m) := by
              apply ByteArray.ext
              simp [headI]
            obtain ⟨wd, hwd⟩ : ∃ wd, wd = wordI (k : Int) := ⟨_, rfl⟩
            obtain ⟨dg, hdg⟩ : ∃ dg, dg = Lib.decDigits m := ⟨_, rfl⟩
            rw [← hwd] at kw hwl heq
            rw [← hdg] at kd hdl2 heq
            have HE1 := Lib.hid he1; have KW := Lib.hid kw; have KD := Lib.hid kd; have KC := Lib.hid kc; have HQ := Lib.hid hq; have HQ2 := Lib.hid hq2; have HEQ := Lib.hid heq; have HWL := Lib.hid hwl; have HDL2 := Lib.hid hdl2
            clear he1 hwl hdl2 kw kd kc hq hq2 heq hwd hdg
            cases e1 with
            | true =>
              have hh : hd = headI (k : Int) m := of_decide_eq_true HE1.out.symm
              have ho : openI x = if 16384 < m then (0, [], 5) else (k, b, 0) := by
                rw [HH.out, hh, ← HBL.out]
                exact open_head k b hk1 hk4
              have HO := Lib.hid ho
              clear hh ho
              by_cases hlong : 16384 < m
              · have HO2 := Lib.hid (HO.out.trans (if_pos hlong))
                go_upto_region 10 with fail
                refine wp_region_quietC (C := fun w' => Below wr.heap.size wr w') (Below.refl _ _).drew (by kernel_rfl) (by kernel_rfl) ?_
                go_big_quiet_step ((intro hb; rfl))
                go_big_quiet_step ((intro hb; rfl))
                (refine wpQuiet_sliceH 22 (.tmp 44) (.tmp 45) rfl Tryz.underlying22 (some ad) n c rfl _ s2 46 rfl (by kernel_rfl) ?_; simp only [List.set_cons_succ, List.set_cons_zero])
                (refine wpQuiet_conv 22 9 (.tmp 46) rfl _ KC.out 47 rfl (by kernel_rfl) ?_; simp only [List.set_cons_succ, List.set_cons_zero])
                go_big_quiet_step ((intro hb; rfl))
                go_big_quiet_step ((intro hb; (with_reducible exact KW.out _ hb)))
                go_big_quiet_step ((intro hb; rw [if_neg (by have := HWL.out; simp; omega)]; exact ⟨rfl, rfl⟩))
                go_big_quiet_step ((intro hb; rfl))
                go_big_quiet_step ((intro hb; rfl))
                go_big_quiet_step ((intro hb; (with_reducible exact KD.out _ hb)))
                go_big_quiet_step ((intro hb; rw [if_neg (by have := HWL.out; have := HDL2.out; simp; omega)]; exact ⟨rfl, rfl⟩))
                simp only [HEQ.out]
                have hq := HQ.out
                have hq2 := HQ2.out
                go_big_quiet_step ((intro hb; rfl))
                refine wpQuiet_nil ?_
                intro w' hw'
                go_wp2
                go_ret3
                refine ⟨?_, hbw.trans (hw'.mono hbw.size)⟩
                rw [HO2.out]
                exact ⟨none, 0, rfl, Nat.le_refl _, fun _ => rfl, Sl.nil _ _⟩
              · have HO2 := Lib.hid (HO.out.trans (if_neg hlong))
                go_upto_region 10 with fail
                refine wp_region_quietC (C := fun w' => Below wr.heap.size wr w') (Below.refl _ _).drew (by kernel_rfl) (by kernel_rfl) ?_
                go_big_quiet_step ((intro hb; rfl))
                go_big_quiet_step ((intro hb; rfl))
                (refine wpQuiet_sliceH 22 (.tmp 44) (.tmp 45) rfl Tryz.underlying22 (some ad) n c rfl _ s2 46 rfl (by kernel_rfl) ?_; simp only [List.set_cons_succ, List.set_cons_zero])
                (refine wpQuiet_conv 22 9 (.tmp 46) rfl _ KC.out 47 rfl (by kernel_rfl) ?_; simp only [List.set_cons_succ, List.set_cons_zero])
                go_big_quiet_step ((intro hb; rfl))
                go_big_quiet_step ((intro hb; (with_reducible exact KW.out _ hb)))
                go_big_quiet_step ((intro hb; rw [if_neg (by have := HWL.out; simp; omega)]; exact ⟨rfl, rfl⟩))
                go_big_quiet_step ((intro hb; rfl))
                go_big_quiet_step ((intro hb; rfl))
                go_big_quiet_step ((intro hb; (with_reducible exact KD.out _ hb)))
                go_big_quiet_step ((intro hb; rw [if_neg (by have := HWL.out; have := HDL2.out; simp; omega)]; exact ⟨rfl, rfl⟩))
                simp only [HEQ.out]
                have hq := HQ.out
                have hq2 := HQ2.out
                go_big_quiet_step ((intro hb; rfl))
                refine wpQuiet_nil ?_
                intro w' hw'
                have hbw2 := hbw.trans (hw'.mono hbw.size)
                have b3 : Below w'.heap.size w' (w'.alloc (.cells #[] 5)) := (Below.refl _ _).alloc (Nat.le_refl _) _
                have hbs2 := Lib.hid ((HBS.out.below hbw2).below b3)
                have own := Lib.hid (WinB.empty (w := w') (e := 5) (Nat.le_refl w'.heap.size))
                have HB2 := Lib.hid hbw2; have B3 := Lib.hid b3
                clear hbw2 b3 hq hq2
                go_wp2_with (refine appN rfl (.tmp 60) (.tmp 61) rfl w'.heap.size (.slice (some ⟨w'.heap.size, 0, none⟩) 0 0) [] rfl own.out A2 c2 m b HBL.out.symm rfl hbs2.out (by simp; omega) (by simp) ?_
                             intro v4 w4 hw4 hk4' ho4
                             obtain ⟨A4, c4, rfl, hc4, hm4, hs4⟩ := WinB.readsN (n := m) hw4 HBL.out)
                go_ret3
                have b4 := HB2.out.trans ((B3.out.trans (hk4'.toBelow B3.out.size (fun q hq e => by
                  have e' : w'.heap.size = q := by simpa [Value.ownBlock] using e
                  omega))).mono HB2.out.size)
                refine ⟨?_, b4⟩
                rw [HO2.out]
                have hw5 : Win w4 w'.heap.size 5 1 (.slice A4 m c4) b.length (bvs b) := hw4
                rw [HBL.out] at hw5
                refine ⟨A4, c4, ?_, by dsimp only; rw [HBL.out]; exact hc4, win_null hw5, hs4⟩
                dsimp only
                rw [HBL.out]
                rfl
            | false =>
              have hh : hd ≠ headI (k : Int) m := of_decide_eq_false HE1.out.symm
              have HH2 := Lib.hid hh
              clear hh
              go_upto_region 10 with fail
              refine wp_region_quietC (C := fun w' => Below wr.heap.size wr w') (Below.refl _ _).drew (by kernel_rfl) (by kernel_rfl) ?_
              go_big_quiet_step ((intro hb; rfl))
              go_big_quiet_step ((intro hb; rfl))
              (refine wpQuiet_sliceH 22 (.tmp 44) (.tmp 45) rfl Tryz.underlying22 (some ad) n c rfl _ s2 46 rfl (by kernel_rfl) ?_; simp only [List.set_cons_succ, List.set_cons_zero])
              (refine wpQuiet_conv 22 9 (.tmp 46) rfl _ KC.out 47 rfl (by kernel_rfl) ?_; simp only [List.set_cons_succ, List.set_cons_zero])
              go_big_quiet_step ((intro hb; rfl))
              go_big_quiet_step ((intro hb; (with_reducible exact KW.out _ hb)))
              go_big_quiet_step ((intro hb; rw [if_neg (by have := HWL.out; simp; omega)]; exact ⟨rfl, rfl⟩))
              go_big_quiet_step ((intro hb; rfl))
              go_big_quiet_step ((intro hb; rfl))
              go_big_quiet_step ((intro hb; (with_reducible exact KD.out _ hb)))
              go_big_quiet_step ((intro hb; rw [if_neg (by have := HWL.out; have := HDL2.out; simp; omega)]; exact ⟨rfl, rfl⟩))
              simp only [HEQ.out]
              have hq := HQ.out
              have hq2 := HQ2.out
              go_big_quiet_step ((intro hb; rfl))
              refine wpQuiet_nil ?_
              intro w' hw'
              go_wp2
              go_roundw
              case rel => exact ⟨k + 1, by simp, by omega, by omega, Lib.hid (fun j h1 h2 => by
                by_cases e : j = k
                · rw [e]; exact HH2.out
                · exact HJ.out j h1 (by omega)), hbw.trans (hw'.mono hbw.size)⟩
              case measure => simp only [intOf]; omega
          · have ho : openI x = (0, [], 2) := open_none (fun j b' h1 h4 e => by
              have hbl' : b'.length ≤ 1073741824 := by
                have := congrArg List.length e
                have := HN.out
                rw [List.length_append, List.length_cons] at *
                omega
              have hno' := HNO2.out
              have e2 := HH.out.symm.trans e
              have hcut1 : Lib.cut (hd ++ 0 :: b) [0] = (hd, b, true) := cut_yes b hno'
              have hcut2 : Lib.cut (headI (j : Int) b'.length ++ 0 :: b') [0] = (headI (j : Int) b'.length, b', true) := cut_yes b' (head_no0 _ _)
              rw [e2, hcut2] at hcut1
              injection hcut1 with q1 q2
              injection q2 with q2 _
              rw [q2, HBL.out] at q1
              exact HJ.out j h1 (by omega) q1.symm)
            have HO := Lib.hid ho
            clear ho
            have hk : decide ((k : Int) ≤ 4) = false := decide_eq_false (by omega)
            go_wp2
            go_ret3
            refine ⟨?_, hbw⟩
            rw [HO.out]
            exact ⟨none, 0, rfl, Nat.le_refl _, fun _ => rfl, Sl.nil _ _⟩
      · have hy0 : ((y.toNat : Int) != 0) = true := by
          have : y.toNat ≠ 0 := fun e => h0 (UInt8.toNat_inj.1 (by simpa using e))
          simp; omega
        by_cases hi32 : i < 32
        · clear hxl
          go_wp2
          go_roundw
          case rel => exact ⟨i + 1, by simp, by omega, by omega, Lib.hid (by
            rw [HTK.out]
            intro e
            rcases List.mem_append.1 e with e | e
            · exact HNO.out e
            · exact h0 (List.mem_singleton.1 e).symm), trivial⟩
          case measure => simp only [intOf]; omega
        · have hi2 : i = 32 := by omega
          have ho : openI x = (0, [], 2) := open_none (fun k b h1 h4 e => by
            have hbl : b.length ≤ 1073741824 := by
              have := congrArg List.length e
              rw [List.length_append, List.length_cons] at this
              omega
            have h1' := head_at ⟨h1, h4⟩ hbl e HNO.out (by omega) (.inr (.inr hi2))
            have := head_lt k b.length ⟨h1, h4⟩ hbl
            omega)
          have HO := Lib.hid ho
          clear ho hxl hi2
          go_wp2
          go_ret3
          refine ⟨?_, Below.refl _ _⟩
          rw [HO.out]
          exact ⟨none, 0, rfl, Nat.le_refl _, fun _ => rfl, Sl.nil _ _⟩
    · have hi2 : i = n := by omega
      have ho : openI x = (0, [], 2) := open_none (fun k b h1 h4 e => by
        have := HNO.out
        rw [hi2, hxl, List.take_of_length_le (Nat.le_refl _), e] at this
        exact this (by simp))
      have HO := Lib.hid ho
      subst hi2
      clear ho hxl
      go_wp2
      go_ret3
      refine ⟨?_, Below.refl _ _⟩
      rw [HO.out]
      exact ⟨none, 0, rfl, Nat.le_refl _, fun _ => rfl, Sl.nil _ _⟩
end
section
open Go.RowKit
set_option maxRecDepth 100000
set_option maxHeartbeats 2000000
set_option linter.unusedVariables false
def longB (n : Nat) : Bool := (decide (3000 < n) && decide (n ≤ 16384)) || decide (32768 < n)
theorem long_any (n : Nat) (hn : n ≤ 9223372036854775807) (A : Option Addr) (c : Nat) (w : World) : Calls Tryz.prog 11 #[.slice A n c] w fun e w' => e = .returned (.bool (longB n)) ∧ w = w' := by
  by_cases h1 : 3000 < n
  · by_cases h2 : n ≤ 16384
    · have e : Hid (longB n = true) := Lib.hid (by unfold longB; simp [h1, h2])
      rw [e.out]
      have d1 : decide ((n : Int) ≤ 16384) = true := decide_eq_true (by omega)
      go_enter Tryz.func11, Tryz.ntmps11
      go_wp2
      go_ret
      exact ⟨rfl, rfl⟩
    · by_cases h3 : 32768 < n
      · have e : Hid (longB n = true) := Lib.hid (by unfold longB; simp [h3])
        rw [e.out]
        have d2 : decide ((32768 : Int) < (n : Int)) = true := decide_eq_true (by omega)
        go_enter Tryz.func11, Tryz.ntmps11
        go_wp2
        go_ret
        exact ⟨rfl, rfl⟩
      · have e : Hid (longB n = false) := Lib.hid (by unfold longB; simp [h2, h3])
        rw [e.out]
        have d1 : decide ((n : Int) ≤ 16384) = false := decide_eq_false (by omega)
        have d2 : decide ((32768 : Int) < (n : Int)) = false := decide_eq_false (by omega)
        go_enter Tryz.func11, Tryz.ntmps11
        go_wp2
        go_ret
        exact ⟨rfl, rfl⟩
  · have e : Hid (longB n = false) := Lib.hid (by
      have : ¬ 32768 < n := by omega
      unfold longB; simp [h1, this])
    rw [e.out]
    have d1 : decide ((3000 : Int) < (n : Int)) = false := decide_eq_false (by omega)
    have d2 : decide ((32768 : Int) < (n : Int)) = false := decide_eq_false (by omega)
    go_enter Tryz.func11, Tryz.ntmps11
    go_wp2
    go_ret
    exact ⟨rfl, rfl⟩
theorem long_no {n : Nat} (h : longB n = false) : n ≤ 3000 ∨ (16384 < n ∧ n ≤ 32768) := by
  unfold longB at h
  simp only [Bool.or_eq_false_iff, Bool.and_eq_false_iff, decide_eq_false_iff_not] at h
  omega
theorem names_pass (k : Int) (b c : List UInt8) (hb : b.length ≤ 9223372036854775807) (hc : c.length ≤ 9223372036854775807) (A B : Option Addr) (ca cb : Nat) (h : longB b.length = true ∨ 3000 < c.length) (w : World) (hg : Gb w) :
    Calls Tryz.prog 3 #[.int .i64 k, .slice A b.length ca, .slice B c.length cb] w fun e w' => e = .returned (.bool true) ∧ Below w.heap.size w w' := by
  have kk := known_any w hg
  have kl := fun w => long_any b.length hb A ca w
  clear hg
  cases hl : longB b.length with
  | true =>
    rw [hl] at kl
    clear h hl
    go_enter Tryz.func3, Tryz.ntmps3
    go_wp2_with (first
      | (go_at_call 10; (with_reducible refine kk.mono ?_); rintro e w1 ⟨rfl, hb1⟩)
      | (go_at_call 11; (with_reducible refine (kl _).mono ?_); rintro e w2 ⟨rfl, rfl⟩))
    go_ret
    exact ⟨rfl, hb1⟩
  | false =>
    rw [hl] at kl
    have h3 : 3000 < c.length := by
      rcases h with h | h
      · rw [hl] at h; cases h
      · exact h
    clear h hl
    go_enter Tryz.func3, Tryz.ntmps3
    go_wp2_with (first
      | (go_at_call 10; (with_reducible refine kk.mono ?_); rintro e w1 ⟨rfl, hb1⟩)
      | (go_at_call 11; (with_reducible refine (kl _).mono ?_); rintro e w2 ⟨rfl, rfl⟩))
    go_ret
    exact ⟨rfl, hb1⟩
theorem openI_long (x : List UInt8) : (openI x).2.1.length ≤ x.length := by
  rcases open_some x with ⟨k, b, hk, e⟩ | e
  · have : 1 ≤ k ∧ k ≤ 4 := by
      have h2 := (kind_some (kind_word k hk)).2
      omega
    rw [e, open_head k b this.1 this.2]
    split
    · simp
    · simp only [List.length_append, List.length_cons]; omega
  · rw [e]; simp
theorem names_law (k : Int) (b c : List UInt8) (hl : longB b.length = false) (hcl : c.length ≤ 3000) (A B : Option Addr) (ca cb : Nat) (hca : b.length ≤ ca) (hcb : c.length ≤ cb) (hB0 : B = none → cb = 0) (w : World) (hg : Gb w) (hA : Bs w A b) (hB : Bs w B c) :
    Calls Tryz.prog 3 #[.int .i64 k, .slice A b.length ca, .slice B c.length cb] w fun e w' => e = .returned (.bool true) ∧ Below w.heap.size w w' := by
  have hbl := long_no hl
  have kk := known_any w hg
  have kl := fun w => long_any b.length (by omega) A ca w
  rw [hl] at kl
  obtain ⟨x, hx⟩ : ∃ x, x = canonI k b := ⟨_, rfl⟩
  have hxl : x.length ≤ 1000000 := by rw [hx]; have := canon_len k b; omega
  have kc := fun w' h => canon_any k b (by omega) A ca hca w' (hg.below h) (hA.below h)
  have kcr := fun w' h => canonR_any k b (by omega) A ca w' (hA.below h)
  have ki := fun w' h => id_any k b (by omega) A ca hca w' (hg.below h) (hA.below h)
  have kir := fun w' h => idR_any k b (by omega) A ca w' (hA.below h)
  have hid20 := sha1_len (canonI k b)
  have ko := fun (A1 : Option Addr) (c1 : Nat) w' (hc1 : x.length ≤ c1) (h0 : A1 = none → c1 = 0) h (hs : Bs w' A1 x) => open_any x (by omega) A1 c1 hc1 h0 w' (hg.below h) hs
  have kor := fun (A1 : Option Addr) (c1 : Nat) w' (hc1 : x.length ≤ c1) (hs : Bs w' A1 x) => openR_any x (by omega) A1 c1 hc1 w' hs
  have ko2 := fun w' h => open_any c (by omega) B cb hcb hB0 w' (hg.below h) (hB.below h)
  have kor2 := fun w' h => openR_any c (by omega) B cb hcb w' (hB.below h)
  have kk1 := fun w' => okind_any c w'
  have kk2 := fun w' => okindR_any c w'
  have kw1 := fun w' => oword_any k w'
  have kw2 := fun w' => owordR_any k w'
  have hcvc : ∀ w', Below w.heap.size w w' → (convert 22 9 (.slice B c.length cb)).run Tryz.prog w' = .ok (.string (bstr c)) w' := fun w' h => conv34 (hB.below h) rfl
  obtain ⟨s, hs⟩ : ∃ s, s = sha1 (canonI k b) := ⟨_, rfl⟩
  rw [← hs] at ki kir hid20
  rw [← hx] at kc kcr
  have hne : ∀ w, (binOp .neq 27 (idv s) (idv s)).run Tryz.prog w = .ok (.bool false) w := fun w => by rw [neq_run 27 (by kernel_rfl) s s hid20 hid20 w]; simp
  obtain ⟨k1, hk1⟩ : ∃ k1, k1 = (openI x).1 := ⟨_, rfl⟩
  obtain ⟨y1, hy1⟩ : ∃ y1, y1 = (openI x).2.1 := ⟨_, rfl⟩
  obtain ⟨e1, he1⟩ : ∃ e1, e1 = (openI x).2.2 := ⟨_, rfl⟩
  obtain ⟨k2, hk2⟩ : ∃ k2, k2 = (openI c).1 := ⟨_, rfl⟩
  obtain ⟨y2, hy2⟩ : ∃ y2, y2 = (openI c).2.1 := ⟨_, rfl⟩
  obtain ⟨e2, he2⟩ : ∃ e2, e2 = (openI c).2.2 := ⟨_, rfl⟩
  rw [← hk1, ← hy1, ← he1] at ko kor
  rw [← hk2, ← hy2, ← he2] at ko2 kor2
  obtain ⟨q1, hq1⟩ : ∃ q1, q1 = (kindI c).1 := ⟨_, rfl⟩
  obtain ⟨q2, hq2⟩ : ∃ q2, q2 = (kindI c).2 := ⟨_, rfl⟩
  rw [← hq1, ← hq2] at kk1 kk2
  obtain ⟨n, hn⟩ : ∃ n, n = b.length := ⟨_, rfl⟩
  obtain ⟨m, hm⟩ : ∃ m, m = c.length := ⟨_, rfl⟩
  obtain ⟨nx, hnx⟩ : ∃ nx, nx = x.length := ⟨_, rfl⟩
  rw [← hn] at kl kc kcr ki kir ⊢
  rw [← hm] at ko2 kor2 hcvc hcl ⊢
  rw [← hnx] at ko kor kcr
  have KC := Lib.hid kc; have KCR := Lib.hid kcr; have KI := Lib.hid ki; have KIR := Lib.hid kir; have KO := Lib.hid ko; have KOR := Lib.hid kor; have KO2 := Lib.hid ko2; have KOR2 := Lib.hid kor2; have HNX := Lib.hid hnx; have HCV := Lib.hid hcvc
  clear kc kcr ki kir ko kor ko2 kor2 hx hs hk1 hy1 he1 hk2 hy2 he2 hq1 hq2 hn hm hnx hg hA hB hca hcb hB0 hl hbl hid20 hcvc hxl
  go_enter Tryz.func3, Tryz.ntmps3
  go_upto_region 6 with (first
    | (go_at_call 10; (with_reducible refine kk.mono ?_); rintro e w1 ⟨rfl, hb1⟩)
    | (go_at_call 11; (with_reducible refine (kl _).mono ?_); rintro e w2 ⟨rfl, rfl⟩)
    | (go_at_call 12; (with_reducible refine (KC.out _ hb1).mono ?_); rintro e w3 ⟨v3, rfl, hw3, hb3⟩
       obtain ⟨A3, c3, rfl, hc3, _, hs3⟩ := hw3.readsN HNX.out.symm))
  have b3 := hb1.trans (hb3.mono hb1.size)
  have h30 : A3 = none → c3 = 0 := by
    have h5 : Win w3 _ 5 1 (.slice A3 nx c3) x.length (bvs x) := hw3
    rw [← HNX.out] at h5
    exact win_null h5
  have HX : Hid (∀ w', Below w3.heap.size w3 w' → (convert 22 9 (.slice A3 nx c3)).run Tryz.prog w' = .ok (.string (bstr x)) w') := Lib.hid (fun w' h => conv34 (hs3.below h) HNX.out)
  have HXR : Hid (∀ w' A' c', Bs w' A' x → (convert 22 9 (.slice A' nx c')).run Tryz.prog w' = .ok (.string (bstr x)) w') := Lib.hid (fun w' A' c' h => conv34 h HNX.out)
  have x3 : (convert 22 9 (.slice A3 nx c3)).run Tryz.prog w3.drew = .ok (.string (bstr x)) w3.drew := HX.out w3.drew (Below.refl _ _).drew
  have B3 := Lib.hid b3; have B3d := Lib.hid b3.drew; have HS3 := Lib.hid hs3; have H30 := Lib.hid h30; have HC3 := Lib.hid hc3; have BR := Lib.hid ((Below.refl w3.heap.size w3).drew)
  clear hw3 hb1 hb3 b3 hs3 h30 hc3
  go_cut [52] (fun tv wx => tv = .bool false ∧ Below w3.heap.size w3 wx)
  case first =>
    first
      | (go_region_with (first
          | (go_at_call 13; (with_reducible refine (KCR.out _ B3d.out).mono ?_); rintro e w4 ⟨⟨A4, c4, rfl, hc4, hs4⟩, hb4⟩
             have b4 := BR.out.trans hb4
             have x4 := HX.out w4 b4
             have y4 := HXR.out w4 A4 c4 hs4
             have bb4 := B3.out.trans (b4.mono B3.out.size))
          | (go_at_call 14; (with_reducible refine (KI.out _ bb4).mono ?_); rintro e w5 ⟨rfl, hb5⟩
             have bb5 := bb4.trans (hb5.mono bb4.size))
          | (go_at_call 15; (with_reducible refine (KIR.out _ bb5).mono ?_); rintro e w6 ⟨rfl, hb6⟩
             have bb6 := bb5.trans (hb6.mono bb5.size))
          | (go_at_call 16; (with_reducible refine (kw1 _).mono ?_); rintro e w7 ⟨rfl, rfl⟩)
          | (go_at_call 17; (with_reducible refine (kw2 _).mono ?_); rintro e w7 ⟨rfl, rfl⟩)))
      | fail
    all_goals
      have b36 := BR.out.trans (hb4.trans ((hb5.trans (hb6.mono hb5.size)).mono hb4.size))
      go_wp2
      simp only [Act.put, List.getElem_toArray, List.getElem_cons_succ, List.getElem_cons_zero, List.setIfInBounds_toArray, List.set_cons_succ, List.set_cons_zero]
      go_meet
      case rel => exact ⟨rfl, b36⟩
  case rest =>
  obtain ⟨rfl, b36⟩ := hcut
  have B36 := Lib.hid b36; have BB6 := Lib.hid (B3.out.trans (b36.mono B3.out.size))
  clear x3 b36
  go_wp2_with (first
    | (go_at_call 18; (with_reducible refine (KO.out A3 c3 _ HC3.out H30.out BB6.out (HS3.out.below B36.out)).mono ?_); rintro e w8 ⟨⟨A8, c8, rfl, _, _, hs8⟩, hb8⟩
       have b38 := B36.out.trans (hb8.mono B36.out.size)
       have bb8 := BB6.out.trans (hb8.mono BB6.out.size))
    | (go_at_call 19; (with_reducible refine (KOR.out A3 c3 _ HC3.out (HS3.out.below b38)).mono ?_); rintro e w9 ⟨⟨A9, c9, rfl, _, _, hs9⟩, hb9⟩
       have bb9 := bb8.trans (hb9.mono bb8.size)
       have cx8 : (convert 22 9 (.slice A8 y1.length c8)).run Tryz.prog w9 = .ok (.string (bstr y1)) w9 := conv34 (hs8.below hb9) rfl
       have cx9 : (convert 22 9 (.slice A9 y1.length c9)).run Tryz.prog w9 = .ok (.string (bstr y1)) w9 := conv34 hs9 rfl)
    | (go_at_call 18; (with_reducible refine (KO2.out _ bb9).mono ?_); rintro e w10 ⟨⟨A10, c10, rfl, _, _, hs10⟩, hb10⟩
       have bb10 := bb9.trans (hb10.mono bb9.size))
    | (go_at_call 19; (with_reducible refine (KOR2.out _ bb10).mono ?_); rintro e w11 ⟨⟨A11, c11, rfl, _, _, hs11⟩, hb11⟩
       have bb11 := bb10.trans (hb11.mono bb10.size)
       have cx10 : (convert 22 9 (.slice A10 y2.length c10)).run Tryz.prog w11 = .ok (.string (bstr y2)) w11 := conv34 (hs10.below hb11) rfl
       have cx11 : (convert 22 9 (.slice A11 y2.length c11)).run Tryz.prog w11 = .ok (.string (bstr y2)) w11 := conv34 hs11 rfl
       have cxc := HCV.out w11 bb11)
    | (go_at_call 20; (with_reducible refine (kk1 _).mono ?_); rintro e w12 ⟨rfl, rfl⟩)
    | (go_at_call 21; (with_reducible refine (kk2 _).mono ?_); rintro e w12 ⟨rfl, rfl⟩))
  go_ret
  exact ⟨rfl, bb11⟩
theorem names_all (k : Int) (b c : List UInt8) (A B : Option Addr) (ca cb : Nat) (hca : b.length ≤ ca) (hcb : c.length ≤ cb) (ma : ca ≤ maxLen) (mb : cb ≤ maxLen) (hB0 : B = none → cb = 0) (w : World) (hg : Gb w) (hA : Bs w A b) (hB : Bs w B c) :
    Calls Tryz.prog 3 #[.int .i64 k, .slice A b.length ca, .slice B c.length cb] w fun e w' => e = .returned (.bool true) ∧ Below w.heap.size w w' := by
  unfold maxLen at ma mb
  by_cases h : longB b.length = false ∧ c.length ≤ 3000
  · exact names_law k b c h.1 h.2 A B ca cb hca hcb hB0 w hg hA hB
  · refine names_pass k b c (by omega) (by omega) A B ca cb ?_ w hg
    cases hq : longB b.length with
    | true => exact .inl rfl
    | false => exact .inr (by rcases Nat.lt_or_ge 3000 c.length with h' | h'; exact h'; exact absurd ⟨hq, h'⟩ h)
end
end Go.Proofs.YtcedfapcpmedfaaGreatDoor
