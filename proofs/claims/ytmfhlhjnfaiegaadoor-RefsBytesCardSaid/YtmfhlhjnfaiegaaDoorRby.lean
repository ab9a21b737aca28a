/- RefsBytes: any refs as bytes, any bytes as refs, any text as a name: the walk. Conditions: twenty bytes each, as the row's frame hands them over. -/
import Derived.Test.YtmfhlhjnfaiegaaDoorRde
import Derived.Test.YtmfhlhjnfaiegaaDoorKno
namespace Go.Proofs.YtmfhlhjnfaiegaaDoor
open Go.RowKit
set_option maxRecDepth 100000
set_option maxHeartbeats 2000000
set_option linter.unusedVariables false
theorem dec_20 : ∀ (n : Nat) (s : List UInt8) (r q : List Rf), Rf20 r → decL n s r = some q → Rf20 q
  | 0, _, _, _, _, h => by simp [decL] at h
  | n + 1, s, r, q, h20, h => by
    unfold decL at h
    split at h
    · cases h
    · split at h
      · injection h with h; rw [← h]; exact h20
      · split at h
        · cases h
        · rename_i x hx
          refine dec_20 n _ _ _ (fun y hy => ?_) h
          rcases List.mem_append.1 hy with e | e
          · exact h20 y e
          · obtain rfl := List.mem_singleton.1 e
            exact (lineR_some hx).2.1
theorem r20_nil : Rf20 [] := fun r h => by cases h
theorem decI_ok (b : List UInt8) : Rf20 (decI b).1 ∧ (decI b).1.length ≤ 64 := by
  unfold decI
  cases h : decL (b.length + 1) b [] with
  | none => exact ⟨r20_nil, Nat.zero_le _⟩
  | some r =>
    have h20 := dec_20 _ _ _ _ r20_nil h
    simp only
    split
    · exact ⟨r20_nil, Nat.zero_le _⟩
    · split
      · exact ⟨r20_nil, Nat.zero_le _⟩
      · split
        · exact ⟨r20_nil, Nat.zero_le _⟩
        · exact ⟨h20, by show r.length ≤ 64; omega⟩
theorem text_len2 : ∀ (l : List Rf), Rf20 l → (∀ r ∈ l, r.1.length ≤ 100) → (textB l).length ≤ l.length * 142
  | [], _, _ => by simp [textB]
  | r :: l, h, hs => by
    have ih := text_len2 l (fun x hx => h x (by simp [hx])) (fun x hx => hs x (by simp [hx]))
    have := hs r (by simp)
    rw [text_cons, List.length_append, line_len (h r (by simp)), List.length_cons, Nat.succ_mul]
    omega
theorem name_100 {s : List UInt8} (h : nameB s = true) : s.length ≤ 100 := by
  unfold nameB at h
  rw [Bool.and_eq_true, decide_eq_true_iff] at h
  exact h.1
theorem said_len {l : List Rf} (h : rightB l = true) (h20 : Rf20 l) (h64 : l.length ≤ 64) : (saidB l).length ≤ 10000 := by
  have h1 := text_len2 l h20 (fun r hr => name_100 (right_name h hr))
  have h2 : (sumB (textB l)).length = 45 := by simp [sumB, hexs_len, sha1_len]
  have h3 : l.length * 142 ≤ 64 * 142 := Nat.mul_le_mul_right _ h64
  unfold saidB
  rw [List.length_append]
  omega
theorem encI_ok {l : List Rf} (h : (encI l).2 = 0) : encI l = (saidB l, 0) ∧ rightB l = true ∧ l.length ≤ 64 := by
  unfold encI at h ⊢
  by_cases hr : rightB l = true
  · rw [if_pos hr] at h ⊢
    by_cases h6 : 64 < l.length
    · rw [if_pos h6] at h; cases h
    · rw [if_neg h6]; exact ⟨rfl, hr, by omega⟩
  · rw [if_neg hr] at h; cases h
theorem bytes_any (l : List Rf) (h20 : Rf20 l) (A : Option Addr) (c : Nat) (hl : l.length ≤ c) (hc : c ≤ maxLen) (b : List UInt8) (A2 : Option Addr) (c2 : Nat) (hb : b.length ≤ c2) (hc2 : c2 ≤ maxLen) (s : List UInt8) (hs : s.length ≤ maxLen) (w : World) (hg : GOk w) (hA : Sl w A (rfc l)) (hA2 : Bs w A2 b) :
    Calls Tryd.prog 3 #[.slice A l.length c, .slice A2 b.length c2, .string (bstr s)] w fun e w' => e = .returned (.bool true) ∧ Below w.heap.size w w' := by
  have kk := known_any w hg
  have kf : ∀ W, Below w.heap.size w W → _ := fun W h => few_any l h20 A c hc hl W (hA.below h)
  have KF := Lib.hid kf; have H20 := Lib.hid h20; have HA := Lib.hid hA; have HA2 := Lib.hid hA2; have HG := Lib.hid hg
  obtain ⟨n, hn⟩ : ∃ n, n = l.length := ⟨_, rfl⟩
  obtain ⟨m, hm⟩ : ∃ m, m = b.length := ⟨_, rfl⟩
  rw [← hn, ← hm]
  have HN := Lib.hid hn; have HM := Lib.hid hm
  have hmm : m ≤ 9223372036854775807 := by unfold maxLen at hc2; omega
  have hss : s.length ≤ 9223372036854775807 := by unfold maxLen at hs; omega
  have hmc : m ≤ c2 := by omega
  have HMC := Lib.hid hmc
  clear kf h20 hA hA2 hg hn hm hl hc hb hc2 hs hmc
  cases hfew : fewB l with
  | false =>
    have HF := Lib.hid hfew
    clear hfew
    go_enter Tryd.func3, Tryd.ntmps3
    go_wp2_with (first
      | (go_at_call 5; (with_reducible refine kk.mono ?_); rintro e w1 ⟨rfl, hb1⟩)
      | (go_at_call 6; have k2 := KF.out _ hb1; rw [HF.out, ← HN.out] at k2; (with_reducible refine k2.mono ?_); rintro e w2 ⟨rfl, rfl⟩))
    go_ret
    exact ⟨rfl, hb1⟩
  | true =>
    have HF := Lib.hid hfew
    obtain ⟨hn70, hnames⟩ := few_len hfew
    clear hfew
    by_cases hm8 : 8000 < m
    · go_enter Tryd.func3, Tryd.ntmps3
      go_wp2_with (first
        | (go_at_call 5; (with_reducible refine kk.mono ?_); rintro e w1 ⟨rfl, hb1⟩)
        | (go_at_call 6; have k2 := KF.out _ hb1; rw [HF.out, ← HN.out] at k2; (with_reducible refine k2.mono ?_); rintro e w2 ⟨rfl, rfl⟩))
      go_ret
      exact ⟨rfl, hb1⟩
    by_cases hs3 : 300 < s.length
    · go_enter Tryd.func3, Tryd.ntmps3
      go_wp2_with (first
        | (go_at_call 5; (with_reducible refine kk.mono ?_); rintro e w1 ⟨rfl, hb1⟩)
        | (go_at_call 6; have k2 := KF.out _ hb1; rw [HF.out, ← HN.out] at k2; (with_reducible refine k2.mono ?_); rintro e w2 ⟨rfl, rfl⟩))
      go_ret
      exact ⟨rfl, hb1⟩
    have hn256 : l.length ≤ 256 := by omega
    have hn30 : ∀ r ∈ l, r.1.length ≤ 1073741824 := fun r hr => Nat.le_trans (hnames r hr) (by decide)
    have k1 : ∀ W, Below w.heap.size w W → _ := fun W h => enc_any l H20.out hn256 hn30 A c W (HG.out.below h) (HA.out.below h)
    have k2 : ∀ W, Below w.heap.size w W → _ := fun W h => of_any l H20.out hn256 A c W (HA.out.below h)
    have k4 : ∀ W, Below w.heap.size w W → _ := fun W h => dec_any b (by have := HM.out; omega) A2 c2 W (HG.out.below h) (HA2.out.below h)
    have k5 : ∀ W, Below w.heap.size w W → _ := fun W h => decR_any b (by have := HM.out; omega) A2 c2 W (by have := HM.out; have := HMC.out; omega) (HA2.out.below h)
    have k7 : ∀ W, Below w.heap.size w W → _ := fun W h => name_any (bstr s) (by rw [bstr_size]; omega) W (HG.out.below h)
    rw [show (bstr s).data.toList = s by simp] at k7
    have k8 := fun W => nameR_any s (by omega) W
    obtain ⟨X, hX⟩ : ∃ X, X = (encI l).1 := ⟨_, rfl⟩
    obtain ⟨f, hf⟩ : ∃ f, f = (encI l).2 := ⟨_, rfl⟩
    obtain ⟨D, hD⟩ : ∃ D, D = (decI b).1 := ⟨_, rfl⟩
    obtain ⟨d, hd⟩ : ∃ d, d = (decI b).2 := ⟨_, rfl⟩
    obtain ⟨q, hq⟩ : ∃ q, q = nameB s := ⟨_, rfl⟩
    have hdo := decI_ok b
    unfold OutS at k4 k5
    rw [← hX, ← hf] at k1
    rw [← hD, ← hd] at k4 k5
    rw [← hD] at hdo
    rw [← hq] at k7 k8
    have K1 := Lib.hid k1; have K2 := Lib.hid k2; have K4 := Lib.hid k4; have K5 := Lib.hid k5; have K7 := Lib.hid k7; have K8 := Lib.hid k8; have HDO := Lib.hid hdo
    have HX := Lib.hid hX; have HFF := Lib.hid hf; have HNM := Lib.hid hn30; have HN256 := Lib.hid hn256
    clear k1 k2 k4 k5 k7 k8 hX hf hD hd hq hdo hn30 hnames hn256
    go_enter Tryd.func3, Tryd.ntmps3
    go_upto_region 9 with (first
      | (go_at_call 5; (with_reducible refine kk.mono ?_); rintro e w1 ⟨rfl, hb1⟩)
      | (go_at_call 6; have k2 := KF.out _ hb1; rw [HF.out, ← HN.out] at k2; (with_reducible refine k2.mono ?_); rintro e w2 ⟨rfl, rfl⟩
         have k3 := K1.out _ hb1
         rw [← HN.out] at k3)
      | (go_at_call 7; (with_reducible refine k3.mono ?_); rintro e w3 ⟨⟨A3, c3, rfl, hs3'⟩, hb3⟩
         have b3 := hb1.trans (hb3.mono hb1.size)
         have k4 := K2.out _ b3
         rw [← HN.out] at k4)
      | (go_at_call 9; (with_reducible refine k4.mono ?_); rintro e w4 ⟨⟨v4, rfl, hw4⟩, hb4⟩
         have b4 := b3.trans (hb4.mono b3.size)
         obtain ⟨A4, c4, hv4, hc4, _, hs4⟩ := Win.reads hw4
         have k5 := encR_any l H20.out HN256.out HNM.out A4 c4 w4 hs4
         rw [← HX.out, ← HFF.out, ← HN.out] at k5
         rw [← HN.out] at hv4
         subst hv4)
      | (go_at_call 8; (with_reducible refine k5.mono ?_); rintro e w5 ⟨⟨A5, c5, rfl, hs5⟩, hb5⟩
         have b5 := b4.trans (hb5.mono b4.size)
         have k6 := K4.out _ b5
         rw [← HM.out] at k6)
      | (go_at_call 10; (with_reducible refine k6.mono ?_); rintro e w6 ⟨⟨A6, c6, rfl, hc6, hs6⟩, hb6⟩
         have b6 := b5.trans (hb6.mono b5.size)
         have k7 := K5.out _ b6
         rw [← HM.out] at k7)
      | (go_at_call 11; (with_reducible refine k7.mono ?_); rintro e w7 ⟨⟨A7, c7, rfl, hc7, hs7⟩, hb7⟩
         have b7 := b6.trans (hb7.mono b6.size)))
    have z37 : Below w3.heap.size w3 w7 := ((hb4.trans (hb5.mono hb4.size)).trans (hb6.mono (hb4.trans (hb5.mono hb4.size)).size)).trans (hb7.mono ((hb4.trans (hb5.mono hb4.size)).trans (hb6.mono (hb4.trans (hb5.mono hb4.size)).size)).size)
    have z57 : Below w5.heap.size w5 w7 := hb6.trans (hb7.mono hb6.size)
    have cvx := conv34 (c := c3) (hs3'.below z37) rfl
    have cvy := conv34 (c := c5) (hs5.below z57) rfl
    have ks := same_any D D HDO.out.1 HDO.out.1 (by have := HDO.out.2; omega) (by have := HDO.out.2; omega) A6 A7 c6 c7 w7 (hs6.below hb7) hs7
    rw [decide_eq_true rfl] at ks
    have KS := Lib.hid ks; have HS3 := Lib.hid (hs3'.below z37); have B7 := Lib.hid b7
    clear ks hs4 hw4 hs6 hs7 hs5 hs3' hb1 b3 b4 b5 b6 b7 hb3 hb4 hb5 hb6 hb7 z37 z57 k3 k4 k5 k6 k7 hc4 hc6 hc7
    go_upto_region 11 with (first
      | (go_at_call 12; (with_reducible refine KS.out.mono ?_); rintro e w8 ⟨rfl, hb8⟩
         have b8 := B7.out.trans (hb8.mono B7.out.size)
         have k9 := K7.out _ b8)
      | (go_at_call 13; (with_reducible refine k9.mono ?_); rintro e w9 ⟨rfl, hb9⟩
         have b9 := b8.trans (hb9.mono b8.size))
      | (go_at_call 14; (with_reducible refine (K8.out _).mono ?_); rintro e w10 ⟨rfl, rfl⟩))
    by_cases hf0 : f = 0
    · subst hf0
      have heq := encI_ok (l := l) HFF.out.symm
      have hXs : X = saidB l := by rw [HX.out, heq.1]
      have k11 := dec_any X (by rw [hXs]; exact said_len heq.2.1 H20.out heq.2.2) A3 c3 w9 (HG.out.below b9) (HS3.out.below (hb8.trans (hb9.mono hb8.size)))
      rw [hXs, dec_enc heq.2.1 H20.out heq.2.2, ← hXs] at k11
      unfold OutS at k11
      have K11 := Lib.hid k11; have B9 := Lib.hid b9
      clear k11 heq hXs b8 b9 hb8 hb9 k9
      go_wp2_with (first
        | (go_at_call 10; (with_reducible refine K11.out.mono ?_); rintro e w11 ⟨⟨A11, c11, rfl, hc11, hs11⟩, hb11⟩
           have b11 := B9.out.trans (hb11.mono B9.out.size)
           have k12 := K2.out _ b11
           rw [← HN.out] at k12)
        | (go_at_call 9; (with_reducible refine k12.mono ?_); rintro e w12 ⟨⟨v12, rfl, hw12⟩, hb12⟩
           obtain ⟨A12, c12, hv12, hc12, _, hs12⟩ := Win.reads hw12
           have ks := same_any l l H20.out H20.out HN256.out HN256.out A11 A12 c11 c12 w12 (hs11.below hb12) hs12
           rw [decide_eq_true rfl] at ks
           subst hv12)
        | (go_at_call 12; (with_reducible refine ks.mono ?_); rintro e w13 ⟨rfl, hb13⟩))
      go_ret
      have b12 := b11.trans (hb12.mono b11.size)
      exact ⟨rfl, b12.trans (hb13.mono b12.size)⟩
    · have hq : ((f : Int) != 0) = true := by simp; omega
      have hq2 : ((f : Int) == 0) = false := by simp; omega
      clear hf0
      go_wp2
      go_ret
      exact ⟨rfl, b9⟩
end Go.Proofs.YtmfhlhjnfaiegaaDoor
