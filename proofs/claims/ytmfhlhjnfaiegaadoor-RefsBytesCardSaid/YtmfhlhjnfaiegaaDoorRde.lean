/- The reference's Decode: the rows of bytes, or why not: decI. Condition: at most 10000 bytes. -/
import Derived.Test.YtmfhlhjnfaiegaaDoorRdp
import Derived.Test.YtmfhlhjnfaiegaaDoorRof
import Derived.Test.YtmfhlhjnfaiegaaDoorRrt
import Derived.Test.YtmfhlhjnfaiegaaDoorOidE
import Derived.Deep.RegionWith
namespace Go.Proofs.YtmfhlhjnfaiegaaDoor
open Go.RowKit
set_option maxRecDepth 100000
set_option maxHeartbeats 2000000
set_option linter.unusedVariables false
theorem decR_any (b : List UInt8) (hb : b.length ≤ 10000) (A : Option Addr) (c : Nat) (w : World) (hc : b.length ≤ c) (hA : Bs w A b) :
    Calls Tryd.prog 11 #[.slice A b.length c] w (OutS (decI b) w) := by
  obtain ⟨n, hn⟩ : ∃ n, n = b.length := ⟨_, rfl⟩
  rw [← hn] at hc hb ⊢
  have HN := Lib.hid hn; have HA := Lib.hid hA
  clear hn hA
  go_enter Tryd.func11, Tryd.ntmps11
  go_wp2
  go_loopw [4, 5] (fun t4 t5 wr => ∃ (rows : List Rf) (p : Nat), t5 = .int .i64 (p : Int) ∧ p ≤ n ∧ Hid (WinQ wr w.heap.size t4 rows) ∧ Hid (∃ N, (b.drop p).length < N ∧ decL N (b.drop p) rows = decL (n + 1) b []) ∧ Hid (42 * rows.length ≤ p) ∧ Hid (Rf20 rows) ∧ Hid (∀ r ∈ rows, r.1.length ≤ 1073741824) ∧ Below w.heap.size w wr) (fun _ t5 _ => (n - intOf t5).toNat)
  case atStart => exact ⟨[], 0, rfl, by omega, Lib.hid (Win.nil _ _ _ _), Lib.hid ⟨n + 1, by rw [List.drop_zero, ← HN.out]; omega, by rw [List.drop_zero]⟩, Lib.hid (by simp), Lib.hid (fun r h => by cases h), Lib.hid (fun r h => by cases h), Below.refl _ _⟩
  case round =>
    obtain ⟨rows, p, rfl, hp, HW, HD, HL, H20, HS, hbw⟩ := hrel
    have hAw := HA.out.below hbw
    have HAW := Lib.hid hAw; have HBW := Lib.hid hbw
    clear hAw hbw
    go_upto_block 2 with (fail)
    go_cut [6] from 12 to 86 (fun t6 wx => ∃ m : Nat, t6 = .int .i64 (m : Int) ∧ p ≤ m ∧ m ≤ n ∧ Hid (∀ j (h : j < b.length), p ≤ j → j < m → b[j] ≠ 10) ∧ Hid (∀ h : m < b.length, b[m] = 10) ∧ wx = wr)
    case first =>
      go_wp2_with fail
      go_loopw [6] (fun t6 wq => ∃ m : Nat, t6 = .int .i64 (m : Int) ∧ p ≤ m ∧ m ≤ n ∧ Hid (∀ j (h : j < b.length), p ≤ j → j < m → b[j] ≠ 10) ∧ wq = wr) (fun t6 _ => (n - intOf t6).toNat)
      case atStart => exact ⟨p, rfl, Nat.le_refl _, hp, Lib.hid (fun j h h1 h2 => by omega), rfl⟩
      case round =>
        obtain ⟨m, rfl, hpm, hmn, HNO, rfl⟩ := hrel
        by_cases hm : m < n
        · have hml : m < b.length := by rw [← HN.out]; exact hm
          obtain ⟨ad, rfl, hcell⟩ := Bs.at HAW.out hml
          obtain ⟨x, hx⟩ : ∃ x, x = b[m] := ⟨_, rfl⟩
          rw [← hx] at hcell
          by_cases h10 : x = 10
          · have HT : Hid (∀ h : m < b.length, b[m] = 10) := Lib.hid (fun _ => by rw [← hx]; exact h10)
            have hcv : ((x.toNat : Int) == 10) = true := by rw [h10]; rfl
            clear hx h10
            go_wp2
            go_meet
            case rel => exact ⟨m, rfl, hpm, hmn, HNO, HT, rfl⟩
          · have HT : Hid (∀ j (h : j < b.length), p ≤ j → j < m + 1 → b[j] ≠ 10) := Lib.hid (fun j h h1 h2 => by
              by_cases e : j = m
              · subst e; rw [← hx]; exact h10
              · exact HNO.out j h h1 (by omega))
            have hcv : ((x.toNat : Int) == 10) = false := by
              simp only [beq_eq_false_iff_ne, ne_eq]
              intro e
              exact h10 (UInt8.toNat_inj.1 (by show x.toNat = 10; omega))
            clear hx h10
            go_wp2
            go_roundw
            case rel => exact ⟨m + 1, by simp, by omega, by omega, HT, trivial⟩
            case measure => simp only [intOf]; omega
        · have hd : decide ((m : Int) < (n : Int)) = false := decide_eq_false (by omega)
          go_wp2
          go_meet
          case rel => exact ⟨m, rfl, hpm, hmn, HNO, Lib.hid (fun h => by have := HN.out; omega), rfl⟩
    case rest =>
    obtain ⟨m, rfl, hpm, hmn, HNO, HTEN, rfl⟩ := hcut
    obtain ⟨N0, hN1, hN2⟩ := HD.out
    obtain ⟨N, rfl⟩ : ∃ N, N0 = N + 1 := ⟨N0 - 1, by omega⟩
    rw [decL] at hN2
    by_cases hm : m = n
    · have hl : (Lib.cut (b.drop p) [10]).2.2 = false := cut_lost (fun j h => by
        rw [List.getElem_drop]
        exact HNO.out (p + j) (by rw [List.length_drop] at h; omega) (by omega) (by rw [List.length_drop] at h; have := HN.out; omega))
      rw [hl, if_pos rfl] at hN2
      have HE := Lib.hid (show decI b = ([], 2) by rw [decI, ← HN.out, ← hN2])
      clear hl hN2 hN1 HD
      have he : ((m : Int) == (n : Int)) = true := by rw [hm]; exact beq_self_eq_true _
      clear hm
      go_wp2
      go_ret2
      exact ⟨⟨none, 0, by rw [HE.out]; rfl, by rw [HE.out]; simp, by rw [HE.out]; exact Sl.nil _ _⟩, HBW.out⟩
    · have he : ((m : Int) == (n : Int)) = false := by simp; omega
      have hml : m < b.length := by have := HN.out; omega
      obtain ⟨t, ht⟩ : ∃ t, t = (b.drop p).take (m - p) := ⟨_, rfl⟩
      have hdl : (b.drop p).length = n - p := by rw [List.length_drop, ← HN.out]
      have htl : t.length = m - p := by rw [ht, List.length_take, hdl]; omega
      have hcut : Lib.cut (b.drop p) [10] = (t, b.drop (m + 1), true) := by
        have := cut_found (c := 10) (s := b.drop p) (m := m - p) (by rw [hdl]; omega) (by rw [List.getElem_drop]; simp only [show p + (m - p) = m by omega]; exact HTEN.out hml) (fun j h => by
          rw [List.getElem_drop]
          exact HNO.out (p + j) (by omega) (by omega) (by omega))
        rw [this, ht, List.drop_drop, show p + (m - p + 1) = m + 1 by omega]
      rw [hcut] at hN2
      simp only [Bool.true_eq_false, if_false] at hN2
      have hsl : ∀ w, (Instr.slice 23 (.slice A n c) (some (.int .i64 (p : Int))) (some (.int .i64 (m : Int))) none).run Tryd.prog w = .ok (.slice (cutA A c p 1) (m - p) (c - p)) w := slice_midB A n c p m hpm (by omega)
      have hcv := conv34 (c := c - p) (show Bs wc (cutA A c p 1) t by rw [ht]; exact Bs.take (Bs.cut HAW.out p c (by rw [← HN.out]; exact hc)) (m - p)) htl.symm
      have HT := Lib.hid ht; have HTL := Lib.hid htl
      have hm1 : m + 1 ≤ n := by omega
      clear ht hcut hdl hml hm HNO HTEN htl
      have HN2 := Lib.hid hN2; have HN1 := Lib.hid hN1
      have hxl : t.length ≤ 10000 := by rw [HTL.out]; omega
      clear hN2 hN1 HD
      by_cases hsum : t.length = 44 ∧ t.take 4 = sumW
      · obtain ⟨h44, h4⟩ := hsum
        have hlast := last_of (more := b.drop (m + 1)) h44 h4
        have hlr := lineR_sum (t := t) (by rw [pre_take (by omega)]; exact decide_eq_true h4)
        have q44 : ((t.length : Int) == 44) = true := by rw [h44]; rfl
        have q4 : (((bstr t).extract 0 4).toList == [115, 117, 109, 32]) = true := by rw [ext_bstr, Lib.toList_data]; exact beq_iff_eq.2 h4
        have HX5 : Hid ((bstr t).extract 4 t.length = bstr (t.drop 4)) := Lib.hid (by rw [ext_bstr, List.take_of_length_le (by rw [List.length_drop]; exact Nat.le_refl _)])
        have hl44 : 44 ≤ t.length := by omega
        have hl45 : t.length ≤ 44 := by omega
        have kp : ∀ W, _ := fun W => parseRef_any (bstr (t.drop 4)) W (by rw [bstr_size, List.length_drop]; omega)
        rw [show (bstr (t.drop 4)).data.toList = t.drop 4 by simp] at kp
        obtain ⟨id1, hid1⟩ : ∃ id1, id1 = (parseI (t.drop 4)).1 := ⟨_, rfl⟩
        obtain ⟨e1, he1⟩ : ∃ e1, e1 = (parseI (t.drop 4)).2 := ⟨_, rfl⟩
        have i20 : id1.length = 20 := by rw [hid1]; exact parseI_len _
        rw [← hid1, ← he1] at kp
        rw [← he1] at hlast
        have zi := Lib.hid (info22 id1 i20)
        have HZ : Hid ((bvs zs20).toArray.size = (bvs id1).toArray.size) := Lib.hid (by simp [zs20_len, i20])
        have KP := Lib.hid kp; have HLA := Lib.hid hlast; have HLR := Lib.hid hlr
        clear h44 h4 hlast hlr kp hid1 he1 i20
        go_upto_region 12 with (first
          | (go_at_call 28; simp only [HX5.out]; (with_reducible refine (KP.out _).mono ?_); rintro e w3 ⟨rfl, hb3⟩)
          | (refine wpList_store_row rfl 40 (.tmp 8) (.tmp 49) rfl w3.heap.size (bvs id1).toArray rfl rfl 40 _ (heap_alloc_new _ _) zi.out HZ.out (one_bvs _) ?_))
        simp only [zlit, Act.put]
        obtain ⟨r4, b4⟩ := new_set w3 40 (bvs zs20).toArray (bvs id1).toArray
        obtain ⟨W4, hW4⟩ : ∃ W4, W4 = (w3.alloc (.cells (bvs zs20).toArray 40)).setRow w3.heap.size (bvs id1).toArray := ⟨_, rfl⟩
        rw [← hW4] at b4 ⊢
        have b14 : Below wc.heap.size wc W4 := hb3.trans (b4.mono hb3.size)
        have HW4 : Hid (WinQ W4 w.heap.size u4 rows) := Lib.hid (HW.out.below b14)
        have bw4 := HBW.out.trans (b14.mono HBW.out.size)
        clear hW4 r4 b4 b14 hb3 KP zi HZ q44 q4 HX5 hl44 hl45
        by_cases hz : e1 = 0
        · subst hz
          by_cases hme : m + 1 = n
          · have hmore : b.drop (m + 1) = [] := List.drop_eq_nil_of_le (by have := HN.out; omega)
            have hf : some rows = decL (n + 1) b [] := by
              have := HN2.out
              rw [HLA.out, hmore, if_pos (by rfl)] at this
              exact this
            have hf2 : decI b = if rightB rows = false then ([], 2) else if saidB rows ≠ b then ([], 4) else if 64 < rows.length then ([], 5) else (rows, 0) := by rw [decI, ← HN.out, ← hf]
            have HF := Lib.hid hf2
            have hr256 : rows.length ≤ 256 := by have := HL.out; omega
            obtain ⟨A7, c7, hv7, hc7, _, hs7⟩ := Win.reads HW4.out
            have kr := fun W (h : Below W4.heap.size W4 W) => rightR_any rows H20.out hr256 HS.out A7 c7 W (hs7.below h)
            have ks := fun W (h : Below W4.heap.size W4 W) => saidR_any rows H20.out hr256 HS.out A7 c7 W (hs7.below h)
            obtain ⟨k, hk⟩ : ∃ k, k = rows.length := ⟨_, rfl⟩
            rw [← hk] at kr ks hv7 hc7 hr256
            subst hv7
            have KR := Lib.hid kr; have KS := Lib.hid ks; have HK := Lib.hid hk; have HS7 := Lib.hid hs7
            have hq : ((m : Int) + 1 != (n : Int)) = false := by simp; omega
            clear kr ks hk hs7 hmore hf hf2 hme HN2
            cases hr : rightB rows with
            | false =>
              have HE := Lib.hid (show decI b = ([], 2) by rw [HF.out, hr]; rfl)
              have HR := Lib.hid hr
              clear hr
              go_wp2_with (go_at_call 21; have k2 := KR.out _ (Below.refl _ _); rw [HR.out] at k2; (with_reducible refine k2.mono ?_); rintro e w6 ⟨rfl, hb6⟩)
              go_ret2
              exact ⟨⟨none, 0, by rw [HE.out]; rfl, by rw [HE.out]; simp, by rw [HE.out]; exact Sl.nil _ _⟩, bw4.trans (hb6.mono bw4.size)⟩
            | true =>
              have HR := Lib.hid hr
              clear hr
              go_upto_region 20 with (go_at_call 21; have k2 := KR.out _ (Below.refl _ _); rw [HR.out] at k2; (with_reducible refine k2.mono ?_); rintro e w6 ⟨rfl, hb6⟩)
              have b6 := bw4.trans (hb6.mono bw4.size)
              have cvb : ∀ w', Below w.heap.size w w' → (convert 23 9 (.slice A n c)).run Tryd.prog w' = .ok (.string (bstr b)) w' := fun w' h => conv34 (HA.out.below h) HN.out
              have cv6 := cvb w6.drew b6.drew
              have CVB := Lib.hid cvb; have HB6 := Lib.hid hb6; have B6 := Lib.hid b6
              clear cvb hb6 b6
              by_cases hs : saidB rows = b
              · have hq8 : (saidB rows == b) = true := beq_iff_eq.2 hs
                by_cases h64 : 64 < k
                · have HE := Lib.hid (show decI b = ([], 5) by rw [HF.out, HR.out, if_neg (by decide), if_neg (fun h => h hs), if_pos (by rw [← HK.out]; exact h64)])
                  have hd : decide ((64 : Int) < (k : Int)) = true := decide_eq_true (by omega)
                  clear hs
                  go_region_with (go_at_call 22; (with_reducible refine (KS.out _ HB6.out.drew).mono ?_); rintro e w7 ⟨⟨A8, c8, rfl, hs8⟩, hb8⟩; have cv8 := conv34 (c := c8) hs8 rfl; have b7 := B6.out.drew.trans (hb8.mono B6.out.drew.size); have cv7 := CVB.out w7 b7)
                  all_goals go_wp2
                  all_goals go_ret2
                  all_goals exact ⟨⟨none, 0, by rw [HE.out]; rfl, by rw [HE.out]; simp, by rw [HE.out]; exact Sl.nil _ _⟩, b7⟩
                · have HE := Lib.hid (show decI b = (rows, 0) by rw [HF.out, HR.out, if_neg (by decide), if_neg (fun h => h hs), if_neg (by rw [← HK.out]; exact h64)])
                  have hd : decide ((64 : Int) < (k : Int)) = false := decide_eq_false (by omega)
                  clear hs
                  go_region_with (go_at_call 22; (with_reducible refine (KS.out _ HB6.out.drew).mono ?_); rintro e w7 ⟨⟨A8, c8, rfl, hs8⟩, hb8⟩; have cv8 := conv34 (c := c8) hs8 rfl; have b7 := B6.out.drew.trans (hb8.mono B6.out.drew.size); have cv7 := CVB.out w7 b7)
                  all_goals go_wp2
                  all_goals go_ret2
                  all_goals exact ⟨⟨A7, c7, by rw [HE.out, ← HK.out]; rfl, by rw [HE.out, ← HK.out]; exact hc7, by rw [HE.out]; exact HS7.out.below ((HB6.out.drew.trans (hb8.mono HB6.out.drew.size)))⟩, b7⟩
              · have hq8 : (saidB rows == b) = false := beq_eq_false_iff_ne.2 hs
                have HE := Lib.hid (show decI b = ([], 4) by rw [HF.out, HR.out, if_neg (by decide), if_pos hs])
                clear hs
                go_region_with (go_at_call 22; (with_reducible refine (KS.out _ HB6.out.drew).mono ?_); rintro e w7 ⟨⟨A8, c8, rfl, hs8⟩, hb8⟩; have cv8 := conv34 (c := c8) hs8 rfl; have b7 := B6.out.drew.trans (hb8.mono B6.out.drew.size); have cv7 := CVB.out w7 b7)
                all_goals go_wp2
                all_goals go_ret2
                all_goals exact ⟨⟨none, 0, by rw [HE.out]; rfl, by rw [HE.out]; simp, by rw [HE.out]; exact Sl.nil _ _⟩, b7⟩
          · have hmore : (b.drop (m + 1) == []) = false := by
              rw [beq_eq_false_iff_ne]
              intro h
              have := congrArg List.length h
              rw [List.length_drop] at this
              have := HN.out
              simp at *
              omega
            have HE := Lib.hid (show decI b = ([], 2) by
              have := HN2.out
              rw [HLA.out, hmore, Bool.and_false, if_neg (by decide), HLR.out] at this
              rw [decI, ← HN.out, ← this])
            have hq : ((m : Int) + 1 != (n : Int)) = true := by simp; omega
            clear hmore hme HN2
            go_wp2
            go_ret2
            exact ⟨⟨none, 0, by rw [HE.out]; rfl, by rw [HE.out]; simp, by rw [HE.out]; exact Sl.nil _ _⟩, bw4⟩
        · have HE := Lib.hid (show decI b = ([], 2) by
            have := HN2.out
            rw [HLA.out, decide_eq_false hz, Bool.false_and, if_neg (by decide), HLR.out] at this
            rw [decI, ← HN.out, ← this])
          have hq : ((e1 : Int) != 0) = true := by simp; omega
          clear hz HN2
          go_wp2
          go_ret2
          exact ⟨⟨none, 0, by rw [HE.out]; rfl, by rw [HE.out]; simp, by rw [HE.out]; exact Sl.nil _ _⟩, bw4⟩
      · have hlast : lastR t (b.drop (m + 1)) = false := by
          cases hq : lastR t (b.drop (m + 1)) with
          | false => rfl
          | true => exact absurd (last_44 hq) hsum
        have hbad : (lineR t = none ∨ ∃ id, lineR t = some ([], id)) → decI b = ([], 2) := fun h => by
          have hh := HN2.out
          rw [hlast, if_neg (by decide)] at hh
          rcases h with h | ⟨id, h⟩
          · rw [h] at hh
            rw [decI, ← HN.out, ← hh]
          · rw [h] at hh
            exact dec_spoilt b (by rw [← HN.out]; exact hh)
        have hgood : ∀ x, lineR t = some x → decL N (b.drop (m + 1)) (rows ++ [x]) = decL (n + 1) b [] := fun x h => by
          have hh := HN2.out
          rw [hlast, if_neg (by decide), h] at hh
          exact hh
        have HBAD := Lib.hid hbad; have HGOOD := Lib.hid hgood; have HSUM := Lib.hid hsum
        clear hlast hbad hgood hsum HN2
        go_upto_region 10 with fail
        go_cut [44] from 12 to 86 (fun t44 wx => t44 = .bool false ∧ wx = wc)
        case first =>
          by_cases h44 : t.length = 44
          · have hl44 : 44 ≤ t.length := by omega
            have hl45 : t.length ≤ 44 := by omega
            have q44 : ((t.length : Int) == 44) = true := by rw [h44]; rfl
            have q4 : (((bstr t).extract 0 4).toList == [115, 117, 109, 32]) = false := by
              rw [ext_bstr, Lib.toList_data]
              exact beq_eq_false_iff_ne.2 (fun h => HSUM.out ⟨h44, h⟩)
            clear h44
            go_wp2
            go_meet
            case rel => exact ⟨rfl, rfl⟩
          · have q44 : ((t.length : Int) == 44) = false := by simp; omega
            clear h44
            go_wp2
            go_meet
            case rel => exact ⟨rfl, rfl⟩
        case rest =>
        obtain ⟨rfl, rfl⟩ := hcut
        by_cases h42 : t.length < 42
        · have HE := Lib.hid (HBAD.out (lineQ_none (.inl h42)))
          have hd42 : decide ((t.length : Int) < 42) = true := decide_eq_true (by omega)
          go_wp2
          go_ret2
          exact ⟨⟨none, 0, by rw [HE.out]; rfl, by rw [HE.out]; simp, by rw [HE.out]; exact Sl.nil _ _⟩, HBW.out⟩
        · have hd42 : decide ((t.length : Int) < 42) = false := decide_eq_false (by omega)
          have hl42 : 42 ≤ t.length := by omega
          have hi40 : ∀ w, (Instr.index 9 (.string (bstr t)) (.int .i64 40)).run Tryd.prog w = .ok (.int .u8 ((t[40]'(by omega)).toNat : Int)) w := fun w => idx_str t 40 (by omega) w
          obtain ⟨x, hx⟩ : ∃ x, x = t[40]'(by omega) := ⟨_, rfl⟩
          rw [← hx] at hi40
          by_cases h32 : x = 32
          · have HP40 : Hid ((parseI (t.take 40)).2 = 0 → lineR t = some (t.drop 41, (parseI (t.take 40)).1)) := Lib.hid (fun h => lineQ_some (by omega) (by rw [← hx]; exact h32) h)
            have q32 : ((x.toNat : Int) != 32) = false := by rw [h32]; rfl
            have HX40 : Hid ((bstr t).extract 0 40 = bstr (t.take 40)) := Lib.hid (by rw [ext_bstr]; rfl)
            have HX41 : Hid ((bstr t).extract 41 t.length = bstr (t.drop 41)) := Lib.hid (by rw [ext_bstr, List.take_of_length_le (by rw [List.length_drop]; exact Nat.le_refl _)])
            have kp : ∀ W, _ := fun W => parseRef_any (bstr (t.take 40)) W (by rw [bstr_size, List.length_take]; omega)
            rw [show (bstr (t.take 40)).data.toList = t.take 40 by simp] at kp
            obtain ⟨id1, hid1⟩ : ∃ id1, id1 = (parseI (t.take 40)).1 := ⟨_, rfl⟩
            obtain ⟨e1, he1⟩ : ∃ e1, e1 = (parseI (t.take 40)).2 := ⟨_, rfl⟩
            have i20 : id1.length = 20 := by rw [hid1]; exact parseI_len _
            have HNO : Hid (e1 ≠ 0 → decI b = ([], 2)) := Lib.hid (fun h => HBAD.out (lineQ_none (.inr (.inr ⟨by omega, by rw [← he1]; exact h⟩))))
            rw [← hid1, ← he1] at kp HP40
            have zi := Lib.hid (info22 id1 i20)
            have HZ : Hid ((bvs zs20).toArray.size = (bvs id1).toArray.size) := Lib.hid (by simp [zs20_len, i20])
            have KP := Lib.hid kp; have I20 := Lib.hid i20
            clear h32 hx kp hid1 he1 i20
            go_upto_region 17 with (first
              | (go_at_call 28; simp only [HX40.out]; (with_reducible refine (KP.out _).mono ?_); rintro e w3 ⟨rfl, hb3⟩)
              | (refine wpList_store_row rfl 40 (.tmp 10) (.tmp 76) rfl w3.heap.size (bvs id1).toArray rfl rfl 40 _ (heap_alloc_new _ _) zi.out HZ.out (one_bvs _) ?_))
            simp only [zlit, Act.put]
            obtain ⟨r4, b4⟩ := new_set w3 40 (bvs zs20).toArray (bvs id1).toArray
            obtain ⟨W4, hW4⟩ : ∃ W4, W4 = (w3.alloc (.cells (bvs zs20).toArray 40)).setRow w3.heap.size (bvs id1).toArray := ⟨_, rfl⟩
            rw [← hW4] at b4 r4 ⊢
            have b14 : Below wc.heap.size wc W4 := hb3.trans (b4.mono hb3.size)
            have HW4 : Hid (WinQ W4 w.heap.size u4 rows) := Lib.hid (HW.out.below b14)
            have bw4 := HBW.out.trans (b14.mono HBW.out.size)
            have R4 := Lib.hid r4; have BW4 := Lib.hid bw4
            clear hW4 r4 b4 b14 hb3 KP zi HZ bw4
            by_cases hz : e1 = 0
            · subst hz
              have hline := HP40.out rfl
              have HD2 := Lib.hid (HGOOD.out _ hline)
              have l4 : ∀ w', Below W4.heap.size W4 w' → (loadVar 40 ⟨w3.heap.size, 0, none⟩).run Tryd.prog w' = .ok (idv id1) w' := fun w' h => load_id40 id1 I20.out _ w' ((Sl.of_block (off := 0) R4.out (fun j v hj => by simpa using hj)).below h)
              have L4 := Lib.hid l4
              clear hline l4
              go_upto_region 19 with fail
              refine wp_region_quiet_tail1 5 (C := fun w' => Below W4.heap.size W4 w') (Below.refl _ _).drew (by kernel_rfl) (by decide +kernel) _ rfl u4 (fun _ _ _ h => h) (Or.inl ⟨rfl, fun w => rfl⟩) ?_
              simp only [List.take_succ_cons, List.take_zero, List.drop_succ_cons, List.drop_zero, Act.put, List.setIfInBounds_toArray, List.set_cons_succ, List.set_cons_zero]
              repeat (first
                | (refine wpQuiet_load 40 (.tmp 10) rfl ⟨w3.heap.size, 0, none⟩ rfl (idv id1) L4.out _ rfl rfl ?_; simp only [List.set_cons_succ, List.set_cons_zero])
                | (simp only [HX41.out]; refine wpQuiet_buildQ (.tmp 82) (.tmp 83) rfl (t.drop 41) id1 I20.out rfl rfl _ rfl rfl ?_; simp only [List.set_cons_succ, List.set_cons_zero])
                | go_big_quiet_step ((intro hb; rfl)))
              refine wpQuiet_nil ?_
              intro w' hw'
              have hlen : rows.length + 1 ≤ 256 := by have := HL.out; have := HTL.out; omega
              have HLEN := Lib.hid hlen
              clear hlen
              go_wp2_with (first
                | (refine wpList_oneQ rfl (.tmp 84) rfl (t.drop 41) id1 I20.out rfl ?_)
                | (at_builtin
                   have hA4 : Sl (w'.alloc (.cells (rcell (t.drop 41, id1)).toArray 55)) (some ⟨w'.heap.size, 0, none⟩) (rfc [(t.drop 41, id1)]) := Sl.of_block (heap_alloc_new _ _) (fun j v hj => by simpa [rfc] using hj)
                   have bA : Below W4.heap.size W4 (w'.alloc (.cells (rcell (t.drop 41, id1)).toArray 55)) := hw'.alloc hw'.size _
                   refine appQ rfl (.tmp 80) (.tmp 85) rfl w.heap.size _ rows rfl (Win.below HW4.out bA) (some ⟨w'.heap.size, 0, none⟩) 1 [(t.drop 41, id1)] (fun x hx => by obtain rfl := List.mem_singleton.1 hx; exact I20.out) rfl hA4 (by have := HLEN.out; simp; omega) (Nat.le_trans BW4.out.size bA.size) ?_
                   intro v2 w2 hw2 hk2 _
                   have b2 : Below w.heap.size w w2 := (BW4.out.trans (bA.mono BW4.out.size)).trans (hk2.toBelow (Nat.le_trans BW4.out.size bA.size) (fun k hk e => absurd (HW4.out.block k e).1 (by omega)))))
              go_roundw
              case rel => exact ⟨rows ++ [(t.drop 41, id1)], m + 1, by simp, hm1, Lib.hid hw2, Lib.hid ⟨N, by have := HN1.out; rw [List.length_drop] at this ⊢; rw [← HN.out] at *; omega, HD2.out⟩, Lib.hid (by have := HL.out; have := HTL.out; simp; omega), Lib.hid (fun r hr => by
                rcases List.mem_append.1 hr with e | e
                · exact H20.out r e
                · obtain rfl := List.mem_singleton.1 e; exact I20.out), Lib.hid (fun r hr => by
                rcases List.mem_append.1 hr with e | e
                · exact HS.out r e
                · obtain rfl := List.mem_singleton.1 e
                  show (t.drop 41).length ≤ _
                  rw [List.length_drop]; omega), b2⟩
              case measure => simp only [intOf]; omega
            · have HE := Lib.hid (HNO.out hz)
              have hq : ((e1 : Int) != 0) = true := by simp; omega
              have hq2 : ((e1 : Int) == 0) = false := by simp; omega
              clear hz
              go_wp2
              go_ret2
              exact ⟨⟨none, 0, by rw [HE.out]; rfl, by rw [HE.out]; simp, by rw [HE.out]; exact Sl.nil _ _⟩, BW4.out⟩
          · have HE := Lib.hid (HBAD.out (lineQ_none (.inr (.inl ⟨by omega, by rw [← hx]; exact h32⟩))))
            have q32 : ((x.toNat : Int) != 32) = true := by
              simp only [bne_iff_ne, ne_eq]
              intro e
              exact h32 (UInt8.toNat_inj.1 (by show x.toNat = 32; omega))
            clear h32 hx
            go_wp2
            go_ret2
            exact ⟨⟨none, 0, by rw [HE.out]; rfl, by rw [HE.out]; simp, by rw [HE.out]; exact Sl.nil _ _⟩, HBW.out⟩
end Go.Proofs.YtmfhlhjnfaiegaaDoor
