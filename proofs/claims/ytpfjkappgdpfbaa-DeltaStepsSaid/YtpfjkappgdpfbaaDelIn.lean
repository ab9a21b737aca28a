/- trovelaw13.DeltaInserts answers true at any parts and any base. No condition. -/
import Derived.Test.YtpfjkappgdpfbaaDelMd
import Derived.Test.YtpfjkappgdpfbaaDelRm
namespace Go.Proofs.Ytpfjkappgdpfbaa
open Go.RowKit
set_option maxRecDepth 100000
set_option maxHeartbeats 8000000
set_option linter.unusedVariables false
def mkIns (ls : List (List UInt8)) : List DOp := ls.map fun d => ⟨false, 0, 0, d⟩
theorem mkIns_len (ls : List (List UInt8)) : (mkIns ls).length = ls.length := by simp [mkIns]
theorem mkIns_snoc (ls : List (List UInt8)) (d : List UInt8) : mkIns (ls ++ [d]) = mkIns ls ++ [⟨false, 0, 0, d⟩] := by simp [mkIns]
theorem mkIns_good (base : List UInt8) (ls : List (List UInt8)) (h : ∀ d ∈ ls, 1 ≤ d.length ∧ d.length ≤ 127) : MadeBy base ls.flatten (mkIns ls) ∧ (encs (mkIns ls)).length ≤ 128 * ls.length := by
  have hg : Good base (mkIns ls) := fun o ho => by
    obtain ⟨d, hd, rfl⟩ := List.mem_map.1 ho
    have := h d hd
    refine ⟨?_, fun e => by cases e⟩
    unfold okOp
    rw [if_neg (by simp)]
    simp; omega
  refine ⟨⟨hg, ?_⟩, ?_⟩
  · unfold text mkIns
    rw [List.flatMap_map]
    simp [opB, List.flatMap_def]
  · have := encs_len (mkIns ls) (fun o ho => (hg o ho).1)
    rwa [mkIns_len] at this
theorem applyR_short (base : List UInt8) (size : Nat) : ∀ (l : List DOp) (out : List UInt8), Good base l → (out ++ text base l).length < size → applyR base size l out = ([], 2)
  | [], out, _, h => by
    simp only [text_nil, List.append_nil] at h
    rw [applyR, if_neg (by omega)]
  | o :: l, out, hg, h => by
    obtain ⟨h1, h2⟩ := hg o (by simp)
    rw [text_cons, ← List.append_assoc] at h
    have hl := h
    rw [List.length_append, List.length_append] at hl
    rw [applyR, if_pos h2, if_neg (by omega)]
    exact applyR_short base size l _ (fun p hp => hg p (by simp [hp])) h
theorem applyD_short {base target : List UInt8} {ops : List DOp} {sz : Nat} (h : MadeBy base target ops) (hb : base.length < 2 ^ 63) (ht : sz < 2 ^ 63) (hs : target.length < sz) (most : Int) (hm : ¬ most < sz) :
    applyD base (putSize base.length ++ putSize sz ++ encs ops) most = ([], 2) := by
  obtain ⟨_, hd⟩ := deltaR_print base.length sz hb ht ops (fun o ho => (h.1 o ho).1)
  unfold applyD
  rw [hd]
  simp only [if_true]
  rw [if_neg hm, applyR_short base sz ops [] h.1 (by simpa [h.2] using hs)]
theorem print26 (b o : Int) (A : Option Addr) (n c : Nat) (l : List DOp) (w : World) (r : List UInt8 × Nat) (hb : b < 9223372036854775808) (ho : o < 9223372036854775808) (hl : l.length ≤ 1073741824) (hA : OpsR w A l) (hn : n = l.length) (h : printR b o l = r) :
    Calls Try.prog 26 #[.int .i64 b, .int .i64 o, .slice A n c] w (Out2 r w) := by
  subst hn h
  exact print_any b o A c l w hb ho hl hA
theorem printR_good {base : Nat} {out : Int} {l : List DOp} (h0 : 0 ≤ out) (h : ∀ o ∈ l, okOp o) : printR base out l = (putSize base ++ putSize out.toNat ++ encs l, 0) := by
  unfold printR
  rw [if_neg (by rintro (h1 | h1 | h1)
                 · omega
                 · omega
                 · exact h1 h)]
  rfl
theorem deltaInserts_any (A : Option Addr) (c : Nat) (ls : List (List UInt8)) (A1 : Option Addr) (c1 : Nat) (base : List UInt8) (w : World) (hc : ls.length ≤ c) (hA : RwsM w A ls) (hc1 : base.length ≤ c1) (hA1 : Bs w A1 base) :
    Calls Try.prog 12 #[.slice A ls.length c, .slice A1 base.length c1] w fun e w' => e = .returned (.bool true) ∧ Below w.heap.size w w' := by
  by_cases h1 : 20 < ls.length
  · go_enter Try.func12, Try.ntmps12
    go_wp2_with (go_at_call 25; refine (known_any _).mono ?_; rintro e w1 ⟨rfl, hb1⟩)
    go_ret
    exact ⟨rfl, hb1⟩
  by_cases h2 : 300 < base.length
  · go_enter Try.func12, Try.ntmps12
    go_wp2_with (go_at_call 25; refine (known_any _).mono ?_; rintro e w1 ⟨rfl, hb1⟩)
    go_ret
    exact ⟨rfl, hb1⟩
  go_enter Try.func12, Try.ntmps12
  go_wp2_with (go_at_call 25; (with_reducible refine (known_any _).mono ?_); rintro e w1 ⟨rfl, hb1⟩)
  go_loopw [5, 6, 7] (fun t5 t6 t7 wr => ∃ k : Nat, t7 = .int .i64 k ∧ k ≤ ls.length ∧ (∀ d ∈ ls.take k, 1 ≤ d.length ∧ d.length ≤ 127) ∧ OpsV w1 wr w1.heap.size 37 t5 (mkIns (ls.take k)) ∧ WinB wr w1.heap.size 5 t6 (ls.take k).flatten ∧ Below w1.heap.size w1 wr) (fun _ _ t7 _ => ls.length - (intOf t7).toNat)
  case atStart => exact ⟨0, rfl, by omega, by simp, ⟨[], rfl, Win.nil _ _ _ _, fun j d o h => by simp at h⟩, Win.nil _ _ _ _, Below.refl _ _⟩
  case round =>
    obtain ⟨k, rfl, hk, hok, hops, hwv, hb⟩ := hrel
    have hB := hb1.trans (hb.mono hb1.size)
    have HOK := Lib.hid hok; have HWV := Lib.hid hwv
    clear hok hwv
    by_cases hlt : k < ls.length
    · obtain ⟨ad, Ad, cd, rfl, hcell, hcd, hmd, hdata⟩ := (hA.below hB) k ls[k] (by simp [hlt])
      have hd0 : Bs w1 Ad ls[k] := by
        obtain ⟨ad', Ad', cd', e, hcell', _, _, hd⟩ := (hA.below hb1) k ls[k] (by simp [hlt])
        injection e with e
        subst e
        have := (hb.cell (World.block_lt_of_cell? w1 _ hcell')).trans hcell'
        rw [hcell] at this
        injection this with this
        injection this with e1 e2 e3
        rw [e1]; exact hd
      have htk := List.take_succ_eq_append_getElem hlt
      obtain ⟨d, hd⟩ : ∃ d, d = ls[k] := ⟨_, rfl⟩
      rw [← hd] at hcell hcd hdata hd0 htk
      have HD0 := Lib.hid hd0; have HDT := Lib.hid hdata; have HTK := Lib.hid htk
      clear hd0 hdata htk hd
      by_cases e1 : d.length < 1
      · go_wp2
        go_ret
        exact ⟨rfl, hB⟩
      by_cases e2 : 127 < d.length
      · go_wp2
        go_ret
        exact ⟨rfl, hB⟩
      obtain ⟨vs, hvs, hwin, hds⟩ := hops
      rw [mkIns_len] at hvs
      have hlk : (ls.take k).length = k := by simp; omega
      have hfl : (ls.take k).flatten.length ≤ 127 * k := by
        have : ∀ (l : List (List UInt8)), (∀ d ∈ l, 1 ≤ d.length ∧ d.length ≤ 127) → l.flatten.length ≤ 127 * l.length := fun l => by
          induction l with
          | nil => simp
          | cons a l ih =>
            intro h
            have h1 := h a (by simp)
            have h2 := ih (fun d hd => h d (by simp [hd]))
            simp only [List.flatten_cons, List.length_append, List.length_cons]
            omega
        have := this _ HOK.out
        rwa [hlk] at this
      have hb0 := hb.size
      have HV := Lib.hid hvs; have HW := Lib.hid hwin; have HDS := Lib.hid hds; have HLK := Lib.hid hlk
      clear hvs hwin hds hlk
      have hb5 : Below wr.heap.size wr (wr.alloc (.cells #[.bool false, .int .i64 0, .int .i64 0, .slice Ad d.length cd] 37)) := (Below.refl _ _).alloc (Nat.le_refl _) _
      have hcell5 := Lib.hid hcell
      go_wp2_with (first
        | (at_builtin
           refine appW35 rfl (.tmp 50) (.tmp 56) rfl w1.heap.size _ (mkIns (ls.take k)) vs rfl (Win.below HW.out hb5) (some ⟨wr.heap.size, 0, none⟩) 1 (.slice Ad d.length cd) ⟨false, 0, 0, d⟩ rfl rfl (Sl.of_block (heap_alloc_new _ _) (fun j v hj => by simpa [opCells] using hj)) (by rw [mkIns_len, HLK.out]; omega) (Nat.le_trans hb0 (by simp)) ?_
           intro v6 w6 hw6 hk6 ho6
           have hwb6 := Win.kp (Win.below HWV.out hb5) hk6 (fun g hg e => Win.apart (Win.below HW.out hb5) (Win.below HWV.out hb5) (by decide) g e hg)
           have hB6 : Below w1.heap.size w1 w6 := (hb.trans (hb5.mono hb0)).trans (hk6.toBelow (Nat.le_trans hb0 hb5.size) (fun g hg e => absurd (Win.block HW.out g e).1 (by omega)))
           have hB6w := hb1.trans (hB6.mono hb1.size)
           have hcell6 : w6.cell? (ad.add k) = some (.slice Ad d.length cd) := by
             obtain ⟨ad', Ad', cd', e, hc', _⟩ := (hA.below hb1) k ls[k] (by simp [hlt])
             injection e with e
             subst e
             have a1 := (hB6.cell (World.block_lt_of_cell? w1 _ hc')).trans hc'
             have a2 := (hb.cell (World.block_lt_of_cell? w1 _ hc')).trans hc'
             rw [a1, ← a2, hcell5.out]
           have hov : OpsV w1 w6 w1.heap.size 37 v6 (mkIns (ls.take (k + 1))) := by
             rw [HTK.out, mkIns_snoc]
             exact OpsV.snoc (by rw [HV.out, mkIns_len]) HDS.out hcd hmd HD0.out hw6
           have HOV := Lib.hid hov; have HWB := Lib.hid hwb6; have HW6 := Lib.hid hw6
           clear hov hwb6 hw6)
        | (at_builtin
           refine appW22 rfl (.tmp 58) (.tmp 62) rfl w1.heap.size _ (ls.take k).flatten rfl HWB.out Ad cd d rfl (HD0.out.below hB6) (by omega) hB6.size ?_
           intro v7 w7 hw7 hk7 ho7
           have hov7 : OpsV w1 w7 w1.heap.size 37 v6 (mkIns (ls.take (k + 1))) := by
             obtain ⟨vs', a1, a2, a3⟩ := HOV.out
             exact ⟨vs', a1, Win.kp a2 hk7 (fun g hg e => Win.apart a2 HWB.out (by decide) g hg e), a3⟩
           have hB7 : Below w1.heap.size w1 w7 := hB6.trans (hk7.toBelow hB6.size (fun g hg e => absurd (Win.block HWB.out g e).1 (by omega)))
           have HOV7 := Lib.hid hov7
           clear hov7))
      go_roundw
      case rel =>
        refine ⟨k + 1, by go_num, by omega, fun x hx => ?_, HOV7.out, by rw [HTK.out, List.flatten_append]; simpa using hw7, hB7⟩
        rw [HTK.out, List.mem_append] at hx
        rcases hx with hx | hx
        · exact HOK.out x hx
        · simp at hx; subst hx; omega
      case measure => simp [intOf]; omega
    · obtain rfl : k = ls.length := by omega
      have hokk := HOK.out
      have hwv := HWV.out
      rw [List.take_length] at hops hokk hwv
      obtain ⟨hmade, hel⟩ := mkIns_good base ls hokk
      obtain ⟨A5, c5, e5, _, _, hO5⟩ := OpsV.reads hops hb
      rw [mkIns_len] at e5
      subst e5
      have hnl := mkIns_len ls
      obtain ⟨wt, hwt⟩ : ∃ wt, wt = ls.flatten := ⟨_, rfl⟩
      have hwl : wt.length ≤ 127 * ls.length := by
        have : ∀ (l : List (List UInt8)), (∀ d ∈ l, 1 ≤ d.length ∧ d.length ≤ 127) → l.flatten.length ≤ 127 * l.length := fun l => by
          induction l with
          | nil => simp
          | cons a l ih =>
            intro h
            have h1 := h a (by simp)
            have h2 := ih (fun d hd => h d (by simp [hd]))
            simp only [List.flatten_cons, List.length_append, List.length_cons]
            omega
        rw [hwt]; exact this _ hokk
      rw [← hwt] at hwv hmade
      obtain ⟨A6, c6, rfl, hc6, _, hr6⟩ := WinB.readsN (n := wt.length) hwv rfl
      obtain ⟨ops, hopsd⟩ : ∃ ops, ops = mkIns ls := ⟨_, rfl⟩
      rw [← hopsd] at hmade hel hO5 hnl
      have hgd : ∀ o ∈ ops, okOp o := fun o ho => (hmade.1 o ho).1
      have p1 : printR base.length wt.length ops = (putSize base.length ++ putSize wt.length ++ encs ops, 0) := printR_good (by omega) hgd
      have p2 : printR base.length ((wt.length : Int) + 1) ops = (putSize base.length ++ putSize (wt.length + 1) ++ encs ops, 0) := by
        have := printR_good (base := base.length) (out := (wt.length : Int) + 1) (by omega) hgd
        rw [show ((wt.length : Int) + 1).toNat = wt.length + 1 by omega] at this
        exact this
      obtain ⟨dm, hdm⟩ : ∃ dm, dm = putSize base.length ++ putSize wt.length ++ encs ops := ⟨_, rfl⟩
      obtain ⟨dm2, hdm2⟩ : ∃ dm2, dm2 = putSize base.length ++ putSize (wt.length + 1) ++ encs ops := ⟨_, rfl⟩
      have a1 : applyD base dm wt.length = (wt, 0) := by rw [hdm, applyD_made hmade (by omega) (by omega), if_neg (by omega)]
      have a2 : applyD (0 :: base) dm wt.length = ([], 2) := by rw [hdm]; exact applyD_other hmade (by omega) (by omega) _ (by simp)
      have a3 : applyD base dm2 ((wt.length : Int) + 1) = ([], 2) := by rw [hdm2]; exact applyD_short hmade (by omega) (by omega) (by omega) _ (by omega)
      have a4 : 0 < wt.length → applyD base dm ((wt.length : Int) - 1) = ([], 5) := fun h => by rw [hdm, applyD_made hmade (by omega) (by omega), if_pos (by omega)]
      have l1 := putSize_len base.length 2 (by omega) (by decide)
      have l2 := putSize_len wt.length 2 (by omega) (by decide)
      have l3 := putSize_len (wt.length + 1) 2 (by omega) (by decide)
      have dl : dm.length ≤ 3000 := by rw [hdm, List.length_append, List.length_append]; omega
      have dl2 : dm2.length ≤ 3000 := by rw [hdm2, List.length_append, List.length_append]; omega
      rw [← hdm] at p1
      rw [← hdm2] at p2
      obtain ⟨m, hm⟩ : ∃ m, m = dm.length := ⟨_, rfl⟩
      obtain ⟨m2, hm2⟩ : ∃ m2, m2 = dm2.length := ⟨_, rfl⟩
      have P1 := Lib.hid p1; have P2 := Lib.hid p2; have R1 := Lib.hid a1; have R2 := Lib.hid a2; have R3 := Lib.hid a3; have R4 := Lib.hid a4
      have DL := Lib.hid dl; have DL2 := Lib.hid dl2; have HM := Lib.hid hm; have HM2 := Lib.hid hm2; have HO5 := Lib.hid hO5; have HR6 := Lib.hid hr6
      have H1 := Lib.hid hA1; have HNL := Lib.hid hnl
      clear p1 p2 a1 a2 a3 a4 dl dl2 hm hm2 hdm hdm2 hO5 hr6 hops hwv hmade hel hwt hokk hgd hopsd l1 l2 l3 hA1 hA hnl
      by_cases h0 : wt.length = 0
      · have q0 : ((wt.length : Int) == 0) = true := by simp [h0]
        have H0 := Lib.hid h0
        clear h0
        go_wp2_with (first
          | (go_at_call 26; (with_reducible refine (print26 base.length wt.length A5 ls.length c5 ops wr _ (by omega) (by omega) (by have := HNL.out; omega) HO5.out HNL.out.symm P1.out).mono ?_); rintro e w8 ⟨v8, rfl, hw8, hb8⟩
             obtain ⟨A8, c8, rfl, hc8, _, hr8⟩ := WinB.readsN (n := m) hw8 HM.out.symm
             have B8 := hB.trans (hb8.mono hB.size))
          | (go_at_call 33; (with_reducible refine (apply33 A1 c1 base A8 m c8 dm wt.length w8 _ (by omega) hc1 (Sl.below H1.out B8) HM.out (by have := DL.out; omega) hc8 hr8 (by omega) R1.out).mono ?_); rintro e w9 ⟨v9, rfl, hw9, hb9⟩
             obtain ⟨A9, c9, rfl, _, _, hr9⟩ := WinB.readsN (n := wt.length) hw9 rfl
             have B9 := B8.trans (hb9.mono B8.size))
          | (at_builtin
             refine appW22 rfl (.tmp 82) (.tmp 83) rfl w9.heap.size _ [0] rfl (WinB.one w9 0 0 rfl) A1 c1 base rfl (Sl.below H1.out (B9.alloc B9.size _)) (by simp; omega) (by simp) ?_
             intro v10 w10 hw10 hk10 _
             obtain ⟨A10, c10, rfl, hc10, _, hr10⟩ := WinB.readsN (n := base.length + 1) hw10 (by simp)
             have hb10 : Below w9.heap.size w9 w10 := ((Below.refl _ _).alloc (Nat.le_refl _) _).trans (hk10.toBelow (by simp) (fun g hg e => by injection e with e; exact absurd (show w9.heap.size = g from e) (by omega)))
             have B10 := B9.trans (hb10.mono B9.size)
             have hb810 := hb9.trans (hb10.mono hb9.size)
             have hr10' : Bs w10 A10 (0 :: base) := hr10
             clear hw10 hk10)
          | (go_at_call 33; (with_reducible refine (apply33n A10 _ c10 (0 :: base) A8 m c8 dm wt.length w10 _ (by simp) (by omega) hc10 hr10' HM.out (by have := DL.out; omega) hc8 (Sl.below hr8 hb810) (by omega) R2.out).mono ?_); rintro e w11 ⟨v11, rfl, hw11, hb11⟩
             have B11 := B10.trans (hb11.mono B10.size)
             have hb811 := hb810.trans (hb11.mono hb810.size)
             have hb011 := hb8.trans (hb811.mono hb8.size)
             have e1 : (convert 22 9 (.slice A9 wt.length c9)).run Try.prog w11 = .ok (.string (bstr wt)) w11 := conv22 (Sl.below hr9 (hb10.trans (hb11.mono hb10.size))) rfl
             have e2 : (convert 22 9 (.slice A6 wt.length c6)).run Try.prog w11 = .ok (.string (bstr wt)) w11 := conv22 (Sl.below HR6.out hb011) rfl)
          | (go_at_call 26; (with_reducible refine (print26 base.length ((wt.length : Int) + 1) A5 ls.length c5 ops w11 _ (by omega) (by omega) (by have := HNL.out; omega) (HO5.out.below hb011) HNL.out.symm P2.out).mono ?_); rintro e w12 ⟨v12, rfl, hw12, hb12⟩
             obtain ⟨A12, c12, rfl, hc12, _, hr12⟩ := WinB.readsN (n := m2) hw12 HM2.out.symm
             have B12 := B11.trans (hb12.mono B11.size)
             have hb812 := hb811.trans (hb12.mono hb811.size))
          | (go_at_call 33; (with_reducible refine (apply33 A1 c1 base A12 m2 c12 dm2 ((wt.length : Int) + 1) w12 _ (by omega) hc1 (Sl.below H1.out B12) HM2.out (by have := DL2.out; omega) hc12 hr12 (by omega) R3.out).mono ?_); rintro e w13 ⟨v13, rfl, hw13, hb13⟩
             have B13 := B12.trans (hb13.mono B12.size)
             have hb813 := hb812.trans (hb13.mono hb812.size)))
        go_ret
        exact ⟨rfl, B13⟩
      · have q0 : ((wt.length : Int) == 0) = false := by rw [beq_eq_false_iff_ne]; omega
        go_wp2_with (first
          | (go_at_call 26; (with_reducible refine (print26 base.length wt.length A5 ls.length c5 ops wr _ (by omega) (by omega) (by have := HNL.out; omega) HO5.out HNL.out.symm P1.out).mono ?_); rintro e w8 ⟨v8, rfl, hw8, hb8⟩
             obtain ⟨A8, c8, rfl, hc8, _, hr8⟩ := WinB.readsN (n := m) hw8 HM.out.symm
             have B8 := hB.trans (hb8.mono hB.size))
          | (go_at_call 33; (with_reducible refine (apply33 A1 c1 base A8 m c8 dm wt.length w8 _ (by omega) hc1 (Sl.below H1.out B8) HM.out (by have := DL.out; omega) hc8 hr8 (by omega) R1.out).mono ?_); rintro e w9 ⟨v9, rfl, hw9, hb9⟩
             obtain ⟨A9, c9, rfl, _, _, hr9⟩ := WinB.readsN (n := wt.length) hw9 rfl
             have B9 := B8.trans (hb9.mono B8.size))
          | (at_builtin
             refine appW22 rfl (.tmp 82) (.tmp 83) rfl w9.heap.size _ [0] rfl (WinB.one w9 0 0 rfl) A1 c1 base rfl (Sl.below H1.out (B9.alloc B9.size _)) (by simp; omega) (by simp) ?_
             intro v10 w10 hw10 hk10 _
             obtain ⟨A10, c10, rfl, hc10, _, hr10⟩ := WinB.readsN (n := base.length + 1) hw10 (by simp)
             have hb10 : Below w9.heap.size w9 w10 := ((Below.refl _ _).alloc (Nat.le_refl _) _).trans (hk10.toBelow (by simp) (fun g hg e => by injection e with e; exact absurd (show w9.heap.size = g from e) (by omega)))
             have B10 := B9.trans (hb10.mono B9.size)
             have hb810 := hb9.trans (hb10.mono hb9.size)
             have hr10' : Bs w10 A10 (0 :: base) := hr10
             clear hw10 hk10)
          | (go_at_call 33; (with_reducible refine (apply33n A10 _ c10 (0 :: base) A8 m c8 dm wt.length w10 _ (by simp) (by omega) hc10 hr10' HM.out (by have := DL.out; omega) hc8 (Sl.below hr8 hb810) (by omega) R2.out).mono ?_); rintro e w11 ⟨v11, rfl, hw11, hb11⟩
             have B11 := B10.trans (hb11.mono B10.size)
             have hb811 := hb810.trans (hb11.mono hb810.size)
             have hb011 := hb8.trans (hb811.mono hb8.size)
             have e1 : (convert 22 9 (.slice A9 wt.length c9)).run Try.prog w11 = .ok (.string (bstr wt)) w11 := conv22 (Sl.below hr9 (hb10.trans (hb11.mono hb10.size))) rfl
             have e2 : (convert 22 9 (.slice A6 wt.length c6)).run Try.prog w11 = .ok (.string (bstr wt)) w11 := conv22 (Sl.below HR6.out hb011) rfl)
          | (go_at_call 26; (with_reducible refine (print26 base.length ((wt.length : Int) + 1) A5 ls.length c5 ops w11 _ (by omega) (by omega) (by have := HNL.out; omega) (HO5.out.below hb011) HNL.out.symm P2.out).mono ?_); rintro e w12 ⟨v12, rfl, hw12, hb12⟩
             obtain ⟨A12, c12, rfl, hc12, _, hr12⟩ := WinB.readsN (n := m2) hw12 HM2.out.symm
             have B12 := B11.trans (hb12.mono B11.size)
             have hb812 := hb811.trans (hb12.mono hb811.size))
          | (go_at_call 33; (with_reducible refine (apply33 A1 c1 base A12 m2 c12 dm2 ((wt.length : Int) + 1) w12 _ (by omega) hc1 (Sl.below H1.out B12) HM2.out (by have := DL2.out; omega) hc12 hr12 (by omega) R3.out).mono ?_); rintro e w13 ⟨v13, rfl, hw13, hb13⟩
             have B13 := B12.trans (hb13.mono B12.size)
             have hb813 := hb812.trans (hb13.mono hb812.size))
          | (go_at_call 33; (with_reducible refine (apply33 A1 c1 base A8 m c8 dm ((wt.length : Int) - 1) w13 _ (by omega) hc1 (Sl.below H1.out B13) HM.out (by have := DL.out; omega) hc8 (Sl.below hr8 hb813) (by omega) (R4.out (by omega))).mono ?_); rintro e w14 ⟨v14, rfl, hw14, hb14⟩
             have B14 := B13.trans (hb14.mono B13.size)))
        go_ret
        exact ⟨rfl, B14⟩
end Go.Proofs.Ytpfjkappgdpfbaa
