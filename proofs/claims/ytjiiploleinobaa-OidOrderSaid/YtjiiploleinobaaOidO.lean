/- OidOrder answers true. Condition: none on the names, the place, the sign. -/
import Derived.Test.YtjiiploleinobaaOidT
import Derived.Test.YtjiiploleinobaaOidQ
import Derived.Test.YtjiiploleinobaaOidR
namespace Go.Proofs.Ytjiiploleinobaa
open Go.RowKit
set_option maxRecDepth 100000
set_option maxHeartbeats 4000000
set_option linter.unusedVariables false
theorem order_any (a b : List UInt8) (ha : a.length = 20) (hb : b.length = 20) (i : Int) (hi : -9223372036854775808 ≤ i ∧ i ≤ 9223372036854775807) (c : UInt8) (w : World) :
    Calls Try.prog 4 #[idv a, idv b, .int .i64 i, .int .u8 (c.toNat : Int)] w fun e w' => e = .returned (.bool true) ∧ Below w.heap.size w w' := by
  obtain ⟨W0, hW0⟩ : ∃ W0, W0 = (w.alloc (.cells (bvs a).toArray 23)).alloc (.cells (bvs b).toArray 23) := ⟨_, rfl⟩
  have hb0 : Below w.heap.size w W0 := by rw [hW0]; exact ((Below.refl _ _).alloc (Nat.le_refl _) _).alloc (by simp) _
  have A0 : Sl W0 (some ⟨w.heap.size, 0, none⟩) (bvs a) := by
    rw [hW0]
    exact (Sl.of_block (heap_alloc_new _ _) (fun j v hj => by simpa using hj)).below ((Below.refl _ _).alloc (Nat.le_refl _) _)
  have B0 : Sl W0 (some ⟨w.heap.size + 1, 0, none⟩) (bvs b) := by
    rw [hW0]
    have h := Sl.of_block (off := 0) (heap_alloc_new (w.alloc (.cells (bvs a).toArray 23)) (.cells (bvs b).toArray 23)) (l := bvs b) (fun j v hj => by simpa using hj)
    rwa [show (w.alloc (.cells (bvs a).toArray 23)).heap.size = w.heap.size + 1 by simp] at h
  have HW0 := Lib.hid hW0
  have HA0 := Lib.hid A0; have HB0 := Lib.hid B0; have Hb0 := Lib.hid hb0
  clear hW0 A0 B0 hb0
  have HA := Lib.hid ha; have HB := Lib.hid hb
  clear ha hb
  go_enter Try.func4, Try.ntmps4
  go_upto_region 3 with (first | (rw [← HW0.out]; go_at_call 8; (with_reducible refine (known_any _).mono ?_); rintro e W ⟨rfl, hbW⟩) | (go_at_call 8; (with_reducible refine (known_any _).mono ?_); rintro e W ⟨rfl, hbW⟩))
  have A1 := (HA0.out.below hbW)
  have B1 := (HB0.out.below hbW)
  have D1 := Hb0.out.trans (hbW.mono Hb0.out.size)
  clear hbW HA0 HB0 Hb0 HW0
  have HA1 := Lib.hid A1; have HB1 := Lib.hid B1; have HD1 := Lib.hid D1
  clear A1 B1 D1
  go_cut [50] from 14 (fun t50 wx => t50 = .bool false ∧ Below W.heap.size W wx)
  case first =>
    have lA : ∀ w', Below W.heap.size W w' → (loadVar 23 ⟨w.heap.size, 0, none⟩).run Try.prog w' = .ok (idv a) w' := fun w' h => load_id a HA.out _ _ (HA1.out.below h)
    have lB : ∀ w', Below W.heap.size W w' → (loadVar 23 ⟨w.heap.size + 1, 0, none⟩).run Try.prog w' = .ok (idv b) w' := fun w' h => load_id b HB.out _ _ (HB1.out.below h)
    have LA := Lib.hid lA; have LB := Lib.hid lB
    clear lA lB
    obtain ⟨p, q, r, hp, hq, hr, hc⟩ : ∃ p q r : Bool, decide (Lib.compareBytes a b < 0) = p ∧ decide (Lib.compareBytes b a < 0) = q ∧ decide (a = b) = r ∧ ((p = false ∧ q = false ∧ r = true) ∨ (p = true ∧ q = false ∧ r = false) ∨ (p = false ∧ q = true ∧ r = false)) := by
      refine ⟨_, _, _, rfl, rfl, rfl, ?_⟩
      rcases cmp_three a b (by rw [HA.out, HB.out]) with ⟨h1, h2⟩ | ⟨h1, h2, h3⟩ | ⟨h1, h2, h3⟩
      · subst h1; simp [h2]
      · simp [h1, h2, h3]
      · simp [h1, h2, h3]
    have c1 : ∀ w', Below W.heap.size W w' → Calls Try.prog 13 #[idv a, idv b] w' fun e w'' => e = .returned (.bool p) ∧ Below W.heap.size W w'' := fun w' h => by
      have := quietB h (less_any a b w' HA.out HB.out); rwa [hp] at this
    have c2 : ∀ w', Below W.heap.size W w' → Calls Try.prog 13 #[idv b, idv a] w' fun e w'' => e = .returned (.bool q) ∧ Below W.heap.size W w'' := fun w' h => by
      have := quietB h (less_any b a w' HB.out HA.out); rwa [hq] at this
    have c3 : ∀ w', Below W.heap.size W w' → Calls Try.prog 11 #[idv a] w' fun e w'' => e = .returned (.string (bstr (hexs a))) ∧ Below W.heap.size W w'' := fun w' h => quietB h (hex_any a w' HA.out)
    have c4 : ∀ w', Below W.heap.size W w' → Calls Try.prog 11 #[idv b] w' fun e w'' => e = .returned (.string (bstr (hexs b))) ∧ Below W.heap.size W w'' := fun w' h => quietB h (hex_any b w' HB.out)
    have hl : Op.bytesLess (hexs a) (hexs b) = p := by
      rw [← hp]
      exact hexs_less a b (by rw [HA.out, HB.out])
    have e1 : ∀ w, (Op.equalIn 10000 23 (idv a) (idv b)).run Try.prog w = .ok r w := fun w => by rw [eqlIn_run 23 Try.underlying23 a b HA.out HB.out w, hr]
    clear hp hq hr HA1 HB1
    rcases hc with ⟨rfl, rfl, rfl⟩ | ⟨rfl, rfl, rfl⟩ | ⟨rfl, rfl, rfl⟩
    all_goals
      refine wp_region_quietC (C := fun w' => Below W.heap.size W w') (Below.refl _ _).drew (by kernel_rfl) (by kernel_rfl) ?_
      repeat (first
        | (refine wpQuiet_load 23 (.tmp 4) rfl ⟨w.heap.size, 0, none⟩ rfl (idv a) LA.out _ rfl rfl ?_; simp only [List.set_cons_succ, List.set_cons_zero])
        | (refine wpQuiet_load 23 (.tmp 5) rfl ⟨w.heap.size + 1, 0, none⟩ rfl (idv b) LB.out _ rfl rfl ?_; simp only [List.set_cons_succ, List.set_cons_zero])
        | go_big_quiet_step ((intro hb; first | (with_reducible exact c1 _ hb) | (with_reducible exact c2 _ hb) | (with_reducible exact c3 _ hb) | (with_reducible exact c4 _ hb) | rfl)))
      refine wpQuiet_nil ?_
      intro w' hw'
      go_wp2
      go_meet
      case rel => exact ⟨rfl, hw'⟩
  case rest =>
    obtain ⟨rfl, hbc⟩ := hcut
    have A2 := HA1.out.below hbc
    have D2 := HD1.out.trans (hbc.mono HD1.out.size)
    clear hbc HA1 HB1 HD1 HB
    have HA2 := Lib.hid A2; have HD2 := Lib.hid D2
    clear A2 D2
    by_cases hn : i < 0
    · go_wp2
      go_ret
      exact ⟨rfl, HD2.out⟩
    by_cases hm : 40 ≤ i
    · go_wp2
      go_ret
      exact ⟨rfl, HD2.out⟩
    obtain ⟨k, hk⟩ : ∃ k : Nat, i = (k : Int) := ⟨i.toNat, by omega⟩
    subst hk
    have hk : k < 40 := by omega
    clear hi hn hm
    have hl40 : (hexs a).length = 40 := by rw [hexs_len, HA.out]
    obtain ⟨x, hx⟩ : ∃ x, x = (hexs a).getD k 0 := ⟨_, rfl⟩
    obtain ⟨p, n, hpn, hpl, hcs⟩ : ∃ (p : List UInt8) (n : Nat), parseI ((hexs a).set k c) = (p, n) ∧ p.length = 20 ∧ ((c = x ∧ p = a ∧ n = 0) ∨ (c ≠ x ∧ 0 ≤ dig c ∧ n = 0 ∧ p ≠ a) ∨ (c ≠ x ∧ ¬ 0 ≤ dig c ∧ n = 2)) := by
      obtain ⟨t1, t2⟩ := turned a HA.out k hk c
      rw [← hx] at t1 t2
      by_cases e : c = x
      · exact ⟨a, 0, t1 e, HA.out, .inl ⟨e, rfl, rfl⟩⟩
      · obtain ⟨t3, t4⟩ := t2 e
        by_cases d : 0 ≤ dig c
        · obtain ⟨p, h1, h2, h3⟩ := t3 d
          exact ⟨p, 0, h1, h2, .inr (.inl ⟨e, d, rfl, h3⟩)⟩
        · obtain ⟨p, h1, h2⟩ := t4 d
          exact ⟨p, 2, h1, h2, .inr (.inr ⟨e, d, rfl⟩)⟩
    have kp : ∀ w, Calls Try.prog 9 #[.string (bstr ((hexs a).set k c))] w fun e w' => e = .returned (.tuple #[idv p, .int .i64 (n : Nat)]) ∧ Below w.heap.size w w' := fun w => by
      have h := parse_any (bstr ((hexs a).set k c)) w (by show ((hexs a).set k c).toArray.size ≤ _; simp [hl40])
      have e : (bstr ((hexs a).set k c)).data.toList = (hexs a).set k c := by simp
      rw [e, hpn] at h
      exact h
    have hxk : (bvs (hexs a))[k]? = some (.int .u8 (x.toNat : Int)) := by
      rw [hx, List.getD_eq_getElem?_getD]
      simp only [bvs, List.getElem?_map]
      rw [List.getElem?_eq_getElem (by omega)]
      rfl
    have HL := Lib.hid hl40; have HX := Lib.hid hxk; have HP := Lib.hid hpl; have HC := Lib.hid hcs
    have zi := Lib.hid (info23 p hpl)
    clear hl40 hx hxk hpl hcs hpn
    have la := load_id a HA.out _ _ HA2.out
    go_upto_region 8 with (first
      | (refine wpList_load_agg rfl 23 (.tmp 4) rfl ⟨w.heap.size, 0, none⟩ rfl (idv a) la ?_)
      | (refine wpList_loadG 23 (.tmp 4) rfl ⟨w.heap.size, 0, none⟩ rfl (idv a) la rfl ?_)
      | (go_at_call 11; (with_reducible refine (hex_any a _ HA.out).mono ?_); rintro e w4 ⟨rfl, hb4⟩
         obtain ⟨W5, c5, hcv, hb5, hs5, hf5, hq5⟩ := bytes_new (hexs a) w4
         rw [HL.out] at hcv hf5 hq5))
    clear hcv la
    obtain ⟨g, hg⟩ : ∃ g, g = w4.heap.size := ⟨_, rfl⟩
    rw [← hg] at hs5 hf5 hq5
    simp only [← hg]
    have hb6 : Below w4.heap.size w4 (W5.setCell ⟨g, k, none⟩ (.int .u8 (c.toNat : Int))) := hb5.setCell (p := ⟨g, k, none⟩) (by rw [hg]; exact Nat.le_refl _) _
    have A6 := (HA2.out.below hb4).below hb6
    have D6 := HD2.out.trans (hb4.mono HD2.out.size)
    have D6 := D6.trans (hb6.mono D6.size)
    have S6 := hq5 k c hk
    have f5 := hf5 k hk
    have c5k : W5.cell? ⟨g, k, none⟩ = some (.int .u8 (x.toNat : Int)) := by
      obtain ⟨ad, e, h⟩ := hs5 k _ HX.out
      injection e with e
      subst e
      rw [add_plain, Nat.zero_add] at h
      exact h
    have cv6 : (convert 34 9 (.slice (some ⟨g, 0, none⟩) 40 c5)).run Try.prog (W5.setCell ⟨g, k, none⟩ (.int .u8 (c.toNat : Int))) = .ok (.string (bstr ((hexs a).set k c))) (W5.setCell ⟨g, k, none⟩ (.int .u8 (c.toNat : Int))) :=
      conv34 S6 (by rw [List.length_set, HL.out])
    clear hb4 hb5 hb6 hs5 hf5 hq5 HA2 HD2 S6
    have HA6 := Lib.hid A6; have HD6 := Lib.hid D6
    clear A6 D6
    have Hg := Lib.hid hg
    clear hg
    go_upto_region 10 with (fail)
    generalize W5.setCell ⟨g, k, none⟩ (.int .u8 (c.toNat : Int)) = W6 at HA6 HD6 cv6 ⊢
    clear f5 c5k
    go_upto_region 11 with (first
      | (go_at_call 9; (with_reducible refine (kp _).mono ?_); rintro e w7 ⟨rfl, hb7⟩)
      | (refine wpList_store_row rfl 23 (.tmp 11) (.tmp 72) rfl w7.heap.size (bvs p).toArray rfl rfl 23 (bvs zs20).toArray (heap_alloc_new _ _) zi.out (by simp [HP.out, zs20_len]) (one_bvs _) ?_))
    simp only [zlit]
    obtain ⟨r8, b8⟩ := new_set w7 23 (bvs zs20).toArray (bvs p).toArray
    obtain ⟨W, hW⟩ : ∃ W, W = (w7.alloc (.cells (bvs zs20).toArray 23)).setRow w7.heap.size (bvs p).toArray := ⟨_, rfl⟩
    obtain ⟨g2, hg2⟩ : ∃ g2, g2 = w7.heap.size := ⟨_, rfl⟩
    rw [← hW] at r8 b8 ⊢
    rw [← hg2] at r8
    simp only [← hg2]
    have X := Sl.of_block (off := 0) r8 (l := bvs p) (fun j v hj => by simpa using hj)
    have A := (HA6.out.below hb7).below b8
    have D := HD6.out.trans (hb7.mono HD6.out.size)
    have D := D.trans (b8.mono D.size)
    have lx := load_id p HP.out _ _ X
    have la := load_id a HA.out _ _ A
    have HD := Lib.hid D
    clear hW r8 b8 hb7 HA6 HD6 hg2 X A D cv6 kp zi
    rcases HC.out with ⟨h1, h2, h3⟩ | ⟨h1, h2, h3, h4⟩ | ⟨h1, h2, h3⟩
    · subst h1 h2 h3
      have e1 : ∀ w, (Op.equalIn 10000 23 (idv p) (idv p)).run Try.prog w = .ok true w := fun w => by rw [eqlIn_run 23 Try.underlying23 p p HP.out HP.out w, decide_eq_true rfl]
      clear HC HX
      go_wp2_with (first
        | (refine wpList_loadG 23 (.tmp 4) rfl ⟨w.heap.size, 0, none⟩ rfl (idv p) la rfl ?_)
        | (refine wpList_loadG 23 (.tmp 11) rfl ⟨g2, 0, none⟩ rfl (idv p) lx rfl ?_))
      go_ret
      exact ⟨rfl, HD.out⟩
    · subst h3
      have e1 : ∀ w, (Op.equalIn 10000 23 (idv p) (idv a)).run Try.prog w = .ok false w := fun w => by rw [eqlIn_run 23 Try.underlying23 p a HP.out HA.out w, decide_eq_false h4]
      have hne : ¬ (c.toNat : Int) = (x.toNat : Int) := fun e => h1 (UInt8.toNat_inj.1 (by omega))
      have hne2 : ((c.toNat : Int) == (x.toNat : Int)) = false := by simp [hne]
      have HD2 := (dig_hex c).1 h2
      clear HC HX h1 h2 h4
      rcases HD2 with ⟨r1, r2⟩ | ⟨r1, r2⟩
      · have q1 : (48 : Int) ≤ c.toNat := by omega
        have q2 : (c.toNat : Int) ≤ 57 := by omega
        go_wp2_with (first
          | (refine wpList_loadG 23 (.tmp 4) rfl ⟨w.heap.size, 0, none⟩ rfl (idv a) la rfl ?_)
          | (refine wpList_loadG 23 (.tmp 11) rfl ⟨g2, 0, none⟩ rfl (idv p) lx rfl ?_))
        go_ret
        exact ⟨rfl, HD.out⟩
      · have q1 : (48 : Int) ≤ c.toNat := by omega
        have q2 : ¬ (c.toNat : Int) ≤ 57 := by omega
        have q3 : (97 : Int) ≤ c.toNat := by omega
        have q4 : (c.toNat : Int) ≤ 102 := by omega
        go_wp2_with (first
          | (refine wpList_loadG 23 (.tmp 4) rfl ⟨w.heap.size, 0, none⟩ rfl (idv a) la rfl ?_)
          | (refine wpList_loadG 23 (.tmp 11) rfl ⟨g2, 0, none⟩ rfl (idv p) lx rfl ?_))
        go_ret
        exact ⟨rfl, HD.out⟩
    · subst h3
      have hne : ¬ (c.toNat : Int) = (x.toNat : Int) := fun e => h1 (UInt8.toNat_inj.1 (by omega))
      have hne2 : ((c.toNat : Int) == (x.toNat : Int)) = false := by simp [hne]
      have HD2 : ¬ ((48 ≤ c.toNat ∧ c.toNat ≤ 57) ∨ (97 ≤ c.toNat ∧ c.toNat ≤ 102)) := fun h => by have := (dig_hex c).2 h; omega
      clear HC HX h1 h2
      by_cases r1 : 48 ≤ c.toNat
      · by_cases r3 : 97 ≤ c.toNat
        · have q1 : (48 : Int) ≤ c.toNat := by omega
          have q2 : ¬ (c.toNat : Int) ≤ 57 := by omega
          have q3 : (97 : Int) ≤ c.toNat := by omega
          have q4 : ¬ (c.toNat : Int) ≤ 102 := by omega
          clear HD2
          go_wp2
          go_ret
          exact ⟨rfl, HD.out⟩
        · have q1 : (48 : Int) ≤ c.toNat := by omega
          have q2 : ¬ (c.toNat : Int) ≤ 57 := by omega
          have q3 : ¬ (97 : Int) ≤ c.toNat := by omega
          clear HD2
          go_wp2
          go_ret
          exact ⟨rfl, HD.out⟩
      · have q1 : ¬ (48 : Int) ≤ c.toNat := by omega
        have q3 : ¬ (97 : Int) ≤ c.toNat := by omega
        clear HD2
        go_wp2
        go_ret
        exact ⟨rfl, HD.out⟩
theorem order_int (a b : List UInt8) (ha : a.length = 20) (hb : b.length = 20) (i : Int) (hi : -9223372036854775808 ≤ i ∧ i ≤ 9223372036854775807) (z : Int) (hz : 0 ≤ z ∧ z ≤ 255) (w : World) :
    Calls Try.prog 4 #[idv a, idv b, .int .i64 i, .int .u8 z] w fun e w' => e = .returned (.bool true) ∧ Below w.heap.size w w' := by
  obtain ⟨c, rfl⟩ : ∃ c : UInt8, z = (c.toNat : Int) := ⟨UInt8.ofNat z.toNat, by simp; omega⟩
  exact order_any a b ha hb i hi c w
end Go.Proofs.Ytjiiploleinobaa
