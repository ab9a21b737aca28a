/- ObjectBlobs: a blob of any bytes is one, leads to nothing; at the greatest length, one more is too long. Conditions: what the library's variables hold; a row that came in. -/
import Derived.Test.YtcedfapcpmedfaaGreatDoorKh
namespace Go.Proofs.YtcedfapcpmedfaaGreatDoor
section
open Go.RowKit
set_option maxRecDepth 100000
set_option maxHeartbeats 2000000
set_option linter.unusedVariables false
theorem made_bytes (n : Nat) : madeCells (Value.int .u8 0).cells n = (bvs (List.replicate n 0)).toArray := by
  apply Array.ext'
  rw [show (Value.int .u8 0).cells = #[Value.int .u8 0] from rfl, toList_madeCells_one]
  simp [bvs, bv]
theorem mkB (n : Nat) (h : n ≤ 1000000) (w : World) : (Instr.makeSlice 22 (.int .i64 (n : Int)) (.int .i64 (n : Int))).run Tryz.prog w = .ok (.slice (some ⟨w.heap.size, 0, none⟩) n n) (w.alloc (.cells (bvs (List.replicate n 0)).toArray 5)) := by
  obtain ⟨i, hi, hz, hs, hb⟩ := info_parts Tryz.info5
  have := run_makeSlice (P := Tryz.prog) (w := w) 22 5 i (.int .u8 0) Tryz.underlying22 hi hz .i64 .i64 (n : Int) (n : Int) (by omega) (by omega) (by rw [hs]; simp; omega) (by rw [hb]; omega) (by omega)
  rw [hs, Int.toNat_natCast, Nat.mul_one, made_bytes] at this
  exact this
theorem blobs_pass (b : List UInt8) (n : Int) (hb : b.length ≤ 9223372036854775807) (h : 3000 < b.length) (A : Option Addr) (ca : Nat) (w : World) (hg : Gb w) :
    Calls Tryz.prog 7 #[.slice A b.length ca, .int .i64 n] w fun e w' => e = .returned (.bool true) ∧ Below w.heap.size w w' := by
  have kk := known_any w hg
  clear hg
  go_enter Tryz.func7, Tryz.ntmps7
  go_wp2_with (first
    | (go_at_call 10; (with_reducible refine kk.mono ?_); rintro e w1 ⟨rfl, hb1⟩))
  go_ret
  exact ⟨rfl, hb1⟩
theorem canon3_len (b : List UInt8) : b.length + 7 ≤ (canonI 3 b).length := by
  have h1 : 1 ≤ (Lib.decDigits b.length).length := by
    by_cases h : b.length < 10
    · rw [Lib.decDigits_one h]; simp
    · rw [Lib.decDigits, dif_neg h]; simp
  unfold canonI
  rw [if_neg (by decide)]
  simp only [headI, List.length_append, List.length_cons]
  have : (wordI 3).length = 4 := by decide
  omega
theorem blobs_law (b : List UInt8) (n : Int) (hn : -9223372036854775808 ≤ n ∧ n ≤ 9223372036854775807) (hb : b.length ≤ 3000) (A : Option Addr) (ca : Nat) (hca : b.length ≤ ca) (w : World) (hg : Gb w) (hA : Bs w A b) :
    Calls Tryz.prog 7 #[.slice A b.length ca, .int .i64 n] w fun e w' => e = .returned (.bool true) ∧ Below w.heap.size w w' := by
  have kk := known_any w hg
  have ke := fun w' => edges_blob b.length (by omega) A ca w'
  rw [if_neg (by omega)] at ke
  have kc := fun w' h => canon_any 3 b (by omega) A ca hca w' (hg.below h) (hA.below h)
  have hx7 := canon3_len b
  have hxl := canon_len 3 b
  have hop : openI (canonI 3 b) = (3, b, 0) := by
    have := open_canon 3 b (by decide)
    rwa [if_neg (by omega)] at this
  have kp := fun w' => parents_not 3 (by decide) A b.length ca w'
  have hcvb : ∀ w', Below w.heap.size w w' → (convert 22 9 (.slice A b.length ca)).run Tryz.prog w' = .ok (.string (bstr b)) w' := fun w' h => conv34 (hA.below h) rfl
  obtain ⟨x, hx⟩ : ∃ x, x = canonI 3 b := ⟨_, rfl⟩
  rw [← hx] at kc hx7 hxl hop
  have ko := fun (A1 : Option Addr) (c1 : Nat) w' (hc1 : x.length ≤ c1) (h0 : A1 = none → c1 = 0) h (hs : Bs w' A1 x) => open_any x (by omega) A1 c1 hc1 h0 w' (hg.below h) hs
  rw [hop] at ko
  obtain ⟨m, hm⟩ : ∃ m, m = b.length := ⟨_, rfl⟩
  obtain ⟨nx, hnx⟩ : ∃ nx, nx = x.length := ⟨_, rfl⟩
  rw [← hm] at ke kc kp hcvb hb hx7 ⊢
  rw [← hnx] at ko hx7 hxl
  have hnxb : nx ≤ 1000000 := by omega
  have hm3 : m ≤ 3000 := hb
  have HNX := Lib.hid hnx; have HM := Lib.hid hm; have KE := Lib.hid ke; have KC := Lib.hid kc; have KO := Lib.hid ko; have KP := Lib.hid kp; have HCV := Lib.hid hcvb; have HG := Lib.hid hg
  clear hm hnx ke kc ko kp hcvb hx hop hxl hb hca hg hA
  by_cases h1 : n < 16382
  · clear hn
    go_enter Tryz.func7, Tryz.ntmps7
    go_wp2_with (first
      | (go_at_call 10; (with_reducible refine kk.mono ?_); rintro e w1 ⟨rfl, hb1⟩)
      | (go_at_call 39; (with_reducible refine (KE.out _).mono ?_); rintro e w2 ⟨⟨A2, n2, L2, c2, rfl, hn2, hL2, _, _, _, _⟩, hb2⟩
         have hz2 : n2 = 0 := by rw [hn2, hL2]; rfl
         clear hn2 hL2
         subst hz2
         have bb2 := hb1.trans (hb2.mono hb1.size))
      | (go_at_call 12; (with_reducible refine (KC.out _ bb2).mono ?_); rintro e w3 ⟨v3, rfl, hw3, hb3⟩
         obtain ⟨A3, c3, rfl, hc3, _, hs3⟩ := hw3.readsN HNX.out.symm
         have h30 : Hid (A3 = none → c3 = 0) := Lib.hid (by
           have h5 : Win w3 _ 5 1 (.slice A3 nx c3) x.length (bvs x) := hw3
           rw [← HNX.out] at h5
           exact win_null h5)
         have bb3 := bb2.trans (hb3.mono bb2.size))
      | (go_at_call 18; (with_reducible refine (KO.out A3 c3 _ hc3 h30.out bb3 hs3).mono ?_); rintro e w4 ⟨⟨A4, c4, rfl, _, _, hs4⟩, hb4⟩
         have bb4 := bb3.trans (hb4.mono bb3.size)
         have cx4 : (convert 22 9 (.slice A4 b.length c4)).run Tryz.prog w4 = .ok (.string (bstr b)) w4 := conv34 hs4 rfl
         have cxb := HCV.out w4 bb4)
      | (go_at_call 44; (with_reducible refine (KP.out _).mono ?_); rintro e w5 ⟨rfl, rfl⟩))
    go_ret
    exact ⟨rfl, bb4⟩
  by_cases h2 : 16386 < n
  · clear hn
    go_enter Tryz.func7, Tryz.ntmps7
    go_wp2_with (first
      | (go_at_call 10; (with_reducible refine kk.mono ?_); rintro e w1 ⟨rfl, hb1⟩)
      | (go_at_call 39; (with_reducible refine (KE.out _).mono ?_); rintro e w2 ⟨⟨A2, n2, L2, c2, rfl, hn2, hL2, _, _, _, _⟩, hb2⟩
         have hz2 : n2 = 0 := by rw [hn2, hL2]; rfl
         clear hn2 hL2
         subst hz2
         have bb2 := hb1.trans (hb2.mono hb1.size))
      | (go_at_call 12; (with_reducible refine (KC.out _ bb2).mono ?_); rintro e w3 ⟨v3, rfl, hw3, hb3⟩
         obtain ⟨A3, c3, rfl, hc3, _, hs3⟩ := hw3.readsN HNX.out.symm
         have h30 : Hid (A3 = none → c3 = 0) := Lib.hid (by
           have h5 : Win w3 _ 5 1 (.slice A3 nx c3) x.length (bvs x) := hw3
           rw [← HNX.out] at h5
           exact win_null h5)
         have bb3 := bb2.trans (hb3.mono bb2.size))
      | (go_at_call 18; (with_reducible refine (KO.out A3 c3 _ hc3 h30.out bb3 hs3).mono ?_); rintro e w4 ⟨⟨A4, c4, rfl, _, _, hs4⟩, hb4⟩
         have bb4 := bb3.trans (hb4.mono bb3.size)
         have cx4 : (convert 22 9 (.slice A4 b.length c4)).run Tryz.prog w4 = .ok (.string (bstr b)) w4 := conv34 hs4 rfl
         have cxb := HCV.out w4 bb4)
      | (go_at_call 44; (with_reducible refine (KP.out _).mono ?_); rintro e w5 ⟨rfl, rfl⟩))
    go_ret
    exact ⟨rfl, bb4⟩
  obtain ⟨k, rfl⟩ : ∃ k : Nat, n = (k : Int) := ⟨n.toNat, by omega⟩
  have hk : k ≤ 16386 := by omega
  have kz := fun w' => mkB k (by omega) w'
  have kch := fun A1 c1 w' => check_blob k (by omega) A1 c1 w'
  obtain ⟨z, hz⟩ : ∃ z, z = List.replicate k (0 : UInt8) := ⟨_, rfl⟩
  rw [← hz] at kz
  have hzl : z.length = k := by rw [hz]; simp
  have kcz := fun (A1 : Option Addr) (c1 : Nat) w' (hc1 : z.length ≤ c1) (hg : Gb w') (hs : Bs w' A1 z) => canon_any 3 z (by omega) A1 c1 hc1 w' hg hs
  have hopz := open_canon 3 z (by decide)
  have hxzl := canon_len 3 z
  obtain ⟨xz, hxz⟩ : ∃ xz, xz = canonI 3 z := ⟨_, rfl⟩
  have hcz : canonI ((3 : Nat) : Int) z = xz := hxz.symm
  rw [hcz] at hopz
  rw [← hxz] at kcz hxzl
  have koz := fun (A1 : Option Addr) (c1 : Nat) w' (hc1 : xz.length ≤ c1) (h0 : A1 = none → c1 = 0) (hg : Gb w') (hs : Bs w' A1 xz) => open_any xz (by omega) A1 c1 hc1 h0 w' hg hs
  rw [hopz, hzl] at koz
  rw [hzl] at kcz
  obtain ⟨nz, hnz⟩ : ∃ nz, nz = xz.length := ⟨_, rfl⟩
  rw [← hnz] at koz
  have HNZ := Lib.hid hnz; have KCZ := Lib.hid kcz; have HZL := Lib.hid hzl
  clear hz hzl hopz hxzl hxz hcz hnz kcz hn
  by_cases hl : 16384 < k
  · rw [if_pos hl] at kch
    rw [if_pos hl] at koz
    have hd : decide ((16384 : Int) < (k : Int)) = true := decide_eq_true (by omega)
    have KOZ := Lib.hid koz; have KCH := Lib.hid kch; have KZ := Lib.hid kz
    clear koz kch
    go_enter Tryz.func7, Tryz.ntmps7
    go_wp2_with (first
      | (go_at_call 10; (with_reducible refine kk.mono ?_); rintro e w1 ⟨rfl, hb1⟩)
      | (go_at_call 39; (with_reducible refine (KE.out _).mono ?_); rintro e w2 ⟨⟨A2, n2, L2, c2, rfl, hn2, hL2, _, _, _, _⟩, hb2⟩
         have hz2 : n2 = 0 := by rw [hn2, hL2]; rfl
         clear hn2 hL2
         subst hz2
         have bb2 := hb1.trans (hb2.mono hb1.size))
      | (go_at_call 12; (with_reducible refine (KC.out _ bb2).mono ?_); rintro e w3 ⟨v3, rfl, hw3, hb3⟩
         obtain ⟨A3, c3, rfl, hc3, _, hs3⟩ := hw3.readsN HNX.out.symm
         have h30 : Hid (A3 = none → c3 = 0) := Lib.hid (by
           have h5 : Win w3 _ 5 1 (.slice A3 nx c3) x.length (bvs x) := hw3
           rw [← HNX.out] at h5
           exact win_null h5)
         have bb3 := bb2.trans (hb3.mono bb2.size))
      | (go_at_call 18; (with_reducible refine (KO.out A3 c3 _ hc3 h30.out bb3 hs3).mono ?_); rintro e w4 ⟨⟨A4, c4, rfl, _, _, hs4⟩, hb4⟩
         have bb4 := bb3.trans (hb4.mono bb3.size)
         have cx4 : (convert 22 9 (.slice A4 b.length c4)).run Tryz.prog w4 = .ok (.string (bstr b)) w4 := conv34 hs4 rfl
         have cxb := HCV.out w4 bb4
         have kz1 := KZ.out w4)
      | (go_at_call 44; (with_reducible refine (KP.out _).mono ?_); rintro e w5 ⟨rfl, rfl⟩)
      | (go_at_call 42; (with_reducible refine (KCH.out _ _ _).mono ?_); rintro e w6 ⟨rfl, rfl⟩
         have bz1 := Lib.hid ((Below.refl w4.heap.size w4).alloc (Nat.le_refl _) (.cells (bvs z).toArray 5))
         have bb6 := bb4.trans (bz1.out.mono bb4.size)
         have kz2 := KZ.out (w4.alloc (.cells (bvs z).toArray 5))
         have hsz2 : Bs ((w4.alloc (.cells (bvs z).toArray 5)).alloc (.cells (bvs z).toArray 5)) (some ⟨w4.heap.size + 1, 0, none⟩) z := by
           have := Sl.of_block (off := 0) (l := bvs z) (heap_alloc_new (w4.alloc (.cells (bvs z).toArray 5)) (.cells (bvs z).toArray 5)) (fun j u hj => by simpa using hj)
           simpa using this)
      | (go_at_call 12; (with_reducible refine (KCZ.out _ _ _ (Nat.le_refl _) (HG.out.below (bb6.alloc bb6.size _)) hsz2).mono ?_); rintro e w7 ⟨v7, rfl, hw7, hb7⟩
         obtain ⟨A7, c7, rfl, hc7, _, hs7⟩ := hw7.readsN HNZ.out.symm
         have h70 : Hid (A7 = none → c7 = 0) := Lib.hid (by
           have h5 : Win w7 _ 5 1 (.slice A7 nz c7) xz.length (bvs xz) := hw7
           rw [← HNZ.out] at h5
           exact win_null h5)
         have bb7 := (bb6.alloc bb6.size (.cells (bvs z).toArray 5)).trans (hb7.mono (bb6.alloc bb6.size (.cells (bvs z).toArray 5)).size))
      | (go_at_call 18; (with_reducible refine (KOZ.out A7 c7 _ hc7 h70.out (HG.out.below bb7) hs7).mono ?_); rintro e w8 ⟨⟨A8, c8, rfl, _, _, hs8⟩, hb8⟩
         have bb8 := bb7.trans (hb8.mono bb7.size)))
    go_ret
    exact ⟨rfl, bb8⟩
  · rw [if_neg hl] at kch
    rw [if_neg hl] at koz
    have hd : decide ((16384 : Int) < (k : Int)) = false := decide_eq_false (by omega)
    have KOZ := Lib.hid koz; have KCH := Lib.hid kch; have KZ := Lib.hid kz
    clear koz kch
    go_enter Tryz.func7, Tryz.ntmps7
    go_wp2_with (first
      | (go_at_call 10; (with_reducible refine kk.mono ?_); rintro e w1 ⟨rfl, hb1⟩)
      | (go_at_call 39; (with_reducible refine (KE.out _).mono ?_); rintro e w2 ⟨⟨A2, n2, L2, c2, rfl, hn2, hL2, _, _, _, _⟩, hb2⟩
         have hz2 : n2 = 0 := by rw [hn2, hL2]; rfl
         clear hn2 hL2
         subst hz2
         have bb2 := hb1.trans (hb2.mono hb1.size))
      | (go_at_call 12; (with_reducible refine (KC.out _ bb2).mono ?_); rintro e w3 ⟨v3, rfl, hw3, hb3⟩
         obtain ⟨A3, c3, rfl, hc3, _, hs3⟩ := hw3.readsN HNX.out.symm
         have h30 : Hid (A3 = none → c3 = 0) := Lib.hid (by
           have h5 : Win w3 _ 5 1 (.slice A3 nx c3) x.length (bvs x) := hw3
           rw [← HNX.out] at h5
           exact win_null h5)
         have bb3 := bb2.trans (hb3.mono bb2.size))
      | (go_at_call 18; (with_reducible refine (KO.out A3 c3 _ hc3 h30.out bb3 hs3).mono ?_); rintro e w4 ⟨⟨A4, c4, rfl, _, _, hs4⟩, hb4⟩
         have bb4 := bb3.trans (hb4.mono bb3.size)
         have cx4 : (convert 22 9 (.slice A4 b.length c4)).run Tryz.prog w4 = .ok (.string (bstr b)) w4 := conv34 hs4 rfl
         have cxb := HCV.out w4 bb4
         have kz1 := KZ.out w4)
      | (go_at_call 44; (with_reducible refine (KP.out _).mono ?_); rintro e w5 ⟨rfl, rfl⟩)
      | (go_at_call 42; (with_reducible refine (KCH.out _ _ _).mono ?_); rintro e w6 ⟨rfl, rfl⟩
         have bz1 := Lib.hid ((Below.refl w4.heap.size w4).alloc (Nat.le_refl _) (.cells (bvs z).toArray 5))
         have bb6 := bb4.trans (bz1.out.mono bb4.size)
         have kz2 := KZ.out (w4.alloc (.cells (bvs z).toArray 5))
         have hsz2 : Bs ((w4.alloc (.cells (bvs z).toArray 5)).alloc (.cells (bvs z).toArray 5)) (some ⟨w4.heap.size + 1, 0, none⟩) z := by
           have := Sl.of_block (off := 0) (l := bvs z) (heap_alloc_new (w4.alloc (.cells (bvs z).toArray 5)) (.cells (bvs z).toArray 5)) (fun j u hj => by simpa using hj)
           simpa using this)
      | (go_at_call 12; (with_reducible refine (KCZ.out _ _ _ (Nat.le_refl _) (HG.out.below (bb6.alloc bb6.size _)) hsz2).mono ?_); rintro e w7 ⟨v7, rfl, hw7, hb7⟩
         obtain ⟨A7, c7, rfl, hc7, _, hs7⟩ := hw7.readsN HNZ.out.symm
         have h70 : Hid (A7 = none → c7 = 0) := Lib.hid (by
           have h5 : Win w7 _ 5 1 (.slice A7 nz c7) xz.length (bvs xz) := hw7
           rw [← HNZ.out] at h5
           exact win_null h5)
         have bb7 := (bb6.alloc bb6.size (.cells (bvs z).toArray 5)).trans (hb7.mono (bb6.alloc bb6.size (.cells (bvs z).toArray 5)).size))
      | (go_at_call 18; (with_reducible refine (KOZ.out A7 c7 _ hc7 h70.out (HG.out.below bb7) hs7).mono ?_); rintro e w8 ⟨⟨A8, c8, rfl, _, _, hs8⟩, hb8⟩
         have bb8 := bb7.trans (hb8.mono bb7.size)))
    go_ret
    exact ⟨rfl, bb8⟩
theorem blobs_all (b : List UInt8) (n : Int) (hn : -9223372036854775808 ≤ n ∧ n ≤ 9223372036854775807) (A : Option Addr) (ca : Nat) (hca : b.length ≤ ca) (ma : ca ≤ maxLen) (w : World) (hg : Gb w) (hA : Bs w A b) :
    Calls Tryz.prog 7 #[.slice A b.length ca, .int .i64 n] w fun e w' => e = .returned (.bool true) ∧ Below w.heap.size w w' := by
  unfold maxLen at ma
  by_cases h : b.length ≤ 3000
  · exact blobs_law b n hn h A ca hca w hg hA
  · exact blobs_pass b n (by omega) (by omega) A ca w hg
end
end Go.Proofs.YtcedfapcpmedfaaGreatDoor
