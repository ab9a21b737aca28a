/- OidShorts answers true. Conditions: each name has twenty bytes. -/
import Derived.Test.YtjiiploleinobaaShoM
import Derived.Test.YtjiiploleinobaaSrtT
namespace Go.Proofs.Ytjiiploleinobaa
open Go.RowKit
set_option maxRecDepth 100000
set_option maxHeartbeats 4000000
set_option linter.unusedVariables false
theorem matchI_len {l : List (List UInt8)} (h : All20 l) (p : List UInt8) : (matchI l p).1.length = 20 := by
  have hf := fits_20 h p
  unfold matchI
  split
  · generalize fits l p = q at hf
    match q, hf with
    | [], _ => exact zs20_len
    | [x], hf => exact hf x (by simp)
    | _ :: _ :: _, _ => exact zs20_len
  · exact zs20_len
theorem shorts_big (l : List (List UInt8)) (s : ByteArray) (hn : 60 < l.length ∨ (l.length ≤ 60 ∧ 100 < s.size)) (hm : l.length ≤ maxLen) (A : Option Addr) (c : Nat) (id : List UInt8) (w : World) :
    Calls Try.prog 6 #[.slice A l.length c, idv id, .string s] w fun e w' => e = .returned (.bool true) ∧ Below w.heap.size w w' := by
  have hb0 : Below w.heap.size w (w.alloc (.cells (bvs id).toArray 23)) := (Below.refl _ _).alloc (Nat.le_refl _) _
  have HB0 := Lib.hid hb0
  generalize l.length = n at *
  clear hb0
  rcases hn with hn | ⟨hn, hn2⟩
  all_goals
    go_enter Try.func6, Try.ntmps6
    go_wp2_with (go_at_call 8; (with_reducible refine (known_any _).mono ?_); rintro e w1 ⟨rfl, hb1⟩)
    go_ret
    exact ⟨rfl, HB0.out.trans (hb1.mono HB0.out.size)⟩
theorem shorts_any (l : List (List UInt8)) (h20 : All20 l) (hn : l.length ≤ 60) (A : Option Addr) (c : Nat) (h0 : A = none → c = 0) (id : List UInt8) (hid : id.length = 20) (s : ByteArray) (hs : s.size ≤ 100) (w : World) (hA : Sl w A (idc l)) :
    Calls Try.prog 6 #[.slice A l.length c, idv id, .string s] w fun e w' => e = .returned (.bool true) ∧ Below w.heap.size w w' := by
  obtain ⟨W0, hW0⟩ : ∃ W0, W0 = w.alloc (.cells (bvs id).toArray 23) := ⟨_, rfl⟩
  have hb0 : Below w.heap.size w W0 := by rw [hW0]; exact (Below.refl _ _).alloc (Nat.le_refl _) _
  have I0 : Sl W0 (some ⟨w.heap.size, 0, none⟩) (bvs id) := by
    rw [hW0]
    exact Sl.of_block (heap_alloc_new _ _) (fun j v hj => by simpa using hj)
  have ks := fun w1 (h : Sl w1 A (idc l)) => sort14 all_pq l h20 (by omega) A c w1 h h0
  have ko := fun w1 (h : Sl w1 A (idc l)) => of_any l h20 (by omega) A c w1 h
  have kr := fun A' c' w1 (h : Sl w1 A' (idc l)) => refsort_any l h20 (by omega) A' c' w1 h
  obtain ⟨sr, s20, sl, sm⟩ := sortI_ok l h20 l.length (Nat.le_refl _)
  rw [List.take_of_length_le (Nat.le_refl _)] at sm
  obtain ⟨M, hM⟩ : ∃ M, M = sortI l l.length := ⟨_, rfl⟩
  rw [← hM] at sr s20 sl sm
  simp only [← hM] at kr
  have HW0 := Lib.hid hW0; have HI0 := Lib.hid I0; have Hb0 := Lib.hid hb0; have HA0 := Lib.hid (hA.below hb0)
  have H20 := Lib.hid h20; have HID := Lib.hid hid; have HSR := Lib.hid sr; have HS20 := Lib.hid s20; have HSM := Lib.hid sm
  have hml : M.length < 256 := by omega
  obtain ⟨n, hnn⟩ : ∃ n, n = l.length := ⟨_, rfl⟩
  rw [← hnn] at ks ko kr hn ⊢
  have HN := Lib.hid hnn
  clear hW0 I0 hb0 hA h20 hid sr s20 sm hnn hM h0 sl
  go_enter Try.func6, Try.ntmps6
  go_upto_region 1 with (fail)
  rw [← HW0.out]
  go_upto_region 5 with (go_at_call 8; (with_reducible refine (known_any _).mono ?_); rintro e w1 ⟨rfl, hb1⟩)
  have k1 := ks w1 (HA0.out.below hb1)
  clear ks
  go_upto_region 6 with (go_at_call 14; (with_reducible refine k1.mono ?_); rintro e w2 ⟨A2, L, rfl, hS2⟩)
  have hLM : L = M := ris_unique L M hS2.ris HSR.out (fun x => by rw [hS2.mem x, HSM.out x])
  subst hLM
  have hb2 := hb1.trans (hS2.below.mono hb1.size)
  have HS2 := Lib.hid hS2.sl
  have k2 := ko w2 (HA0.out.below hb2)
  clear ko hS2 k1 hb1
  go_upto_region 7 with (first
    | (go_at_call 16; (with_reducible refine k2.mono ?_); rintro e w3 ⟨v3, rfl, hown3, hb3⟩
       obtain ⟨A3, c3, rfl, hs3⟩ : ∃ A3 c3, v3 = .slice A3 n c3 ∧ Sl w3 A3 (idc l) := by
         obtain ⟨A3, c3, hv, _, _, hs⟩ := (Win.ofOwns hown3).reads
         exact ⟨A3, c3, by rw [hv, HN.out], hs⟩
       have k3 := kr A3 c3 w3 hs3)
    | (go_at_call 15; (with_reducible refine k3.mono ?_); rintro e w4 ⟨A4, c4, rfl, hs4, hb4⟩))
  have b3 := hb2.trans (hb3.mono hb2.size)
  have b4 := b3.trans (hb4.mono b3.size)
  have HS2 := Lib.hid ((HS2.out.below hb3).below hb4)
  have li4 := load_id id HID.out _ _ (HI0.out.below b4)
  have kf := short_any L HSR.out HS20.out hml A2 L.length id HID.out w4 HS2.out
  have kg := fun w5 (h : Below w4.heap.size w4 w5) => refshort_any L HSR.out HS20.out hml A4 c4 id HID.out w5 (hs4.below h)
  have hMS : fis L id = true → matchI L (shortI L (fk L id) (fis L id) id).1 = (id, 0) := fun h => by
    obtain ⟨h1, h2⟩ := of_decide_eq_true h
    have := match_short HSR.out HS20.out (fk L id) h1
    rw [h2] at this
    rw [h]
    exact this
  have hSN : fis L id = false → (shortI L (fk L id) (fis L id) id).2 = 6 := fun h => by rw [h]; rfl
  have hSY : fis L id = true → (shortI L (fk L id) (fis L id) id).2 = 0 := fun h => by rw [h]; rfl
  have hSL : (shortI L (fk L id) (fis L id) id).1.length ≤ 40 := by
    unfold shortI
    split
    · rw [List.length_take]
      have := hexs_len id
      rw [HID.out] at this
      omega
    · simp
  obtain ⟨sh, hsh⟩ : ∃ sh, sh = (shortI L (fk L id) (fis L id) id).1 := ⟨_, rfl⟩
  obtain ⟨sn, hsn⟩ : ∃ sn, sn = (shortI L (fk L id) (fis L id) id).2 := ⟨_, rfl⟩
  rw [← hsh, ← hsn] at kf
  simp only [← hsh, ← hsn] at kg
  rw [← hsh] at hMS hSL
  rw [← hsn] at hSN hSY
  obtain ⟨f, hf⟩ : ∃ f, f = fis L id := ⟨_, rfl⟩
  rw [← hf] at hMS hSN hSY
  have HS4 := Lib.hid hs4
  have HMS := Lib.hid hMS; have HSN := Lib.hid hSN; have HSY := Lib.hid hSY
  clear hown3 hs3 k2 k3 kr hb3 hb4 hb2 b3 hs4 hsh hsn hf hMS hSN hSY
  go_upto_region 8 with (first
    | (refine wpList_loadG 23 (.tmp 4) rfl ⟨w.heap.size, 0, none⟩ rfl (idv id) li4 rfl ?_)
    | (go_at_call 22; (with_reducible refine kf.mono ?_); rintro e w5 ⟨rfl, hb5⟩))
  have b5 := b4.trans (hb5.mono b4.size)
  have li5 := load_id id HID.out _ _ (HI0.out.below b5)
  have kg1 := kg w5 hb5
  clear kf li4 kg
  go_upto_region 9 with (first
    | (refine wpList_loadG 23 (.tmp 4) rfl ⟨w.heap.size, 0, none⟩ rfl (idv id) li5 rfl ?_)
    | (go_at_call 23; (with_reducible refine kg1.mono ?_); rintro e w6 ⟨rfl, hb6⟩))
  have b6 := b5.trans (hb6.mono b5.size)
  have HI6 := Lib.hid (HI0.out.below b6)
  have hA6 := (HS2.out.below hb5).below hb6
  have hB6 := (HS4.out.below hb5).below hb6
  have km := match_any L HS20.out hml A2 L.length s (by omega) w6 hA6
  have kn := fun w7 (h : Below w6.heap.size w6 w7) => refmatch_any L HS20.out hml A4 c4 s (by omega) w7 (hB6.below h)
  have ky := fun (w7 : World) (h : Below w6.heap.size w6 w7) => match_any L HS20.out hml A2 L.length (bstr sh) (by rw [bstr_size]; omega) w7 (hA6.below h)
  rw [show (bstr sh).data.toList = sh by simp] at ky
  have xl := matchI_len HS20.out s.data.toList
  obtain ⟨x, hx⟩ : ∃ x, x = (matchI L s.data.toList).1 := ⟨_, rfl⟩
  obtain ⟨xn, hxn⟩ : ∃ xn, xn = (matchI L s.data.toList).2 := ⟨_, rfl⟩
  rw [← hx, ← hxn] at km
  simp only [← hx, ← hxn] at kn
  rw [← hx] at xl
  have zx := Lib.hid (info23 x xl)
  have zx2 := Lib.hid (info22 x xl)
  have hlx : (bvs zs20).toArray.size = (bvs x).toArray.size := by simp [xl, zs20_len]
  have HLX := Lib.hid hlx
  have XL := Lib.hid xl
  have HB6 := Lib.hid b6
  have hrf : ((sn : Int) == (sn : Int)) = true := beq_self_eq_true _
  clear hx hxn hA6 hB6 b4 b5 b6 hb5 hb6 kg1 li5 hlx xl HS2 HS4 HI0 HA0 HW0 HN H20 HSR HSM
  go_upto_region 10 with (first
    | (go_at_call 24; (with_reducible refine km.mono ?_); rintro e w7 ⟨rfl, hb7⟩)
    | (refine wpList_store_row rfl 23 (.tmp 13) (.tmp 50) rfl w7.heap.size (bvs x).toArray rfl rfl 23 (bvs zs20).toArray (heap_alloc_new _ _) zx.out HLX.out (one_bvs _) ?_))
  simp only [zlit]
  obtain ⟨r8, b8⟩ := new_set w7 23 (bvs zs20).toArray (bvs x).toArray
  obtain ⟨W8, hW8⟩ : ∃ W8, W8 = (w7.alloc (.cells (bvs zs20).toArray 23)).setRow w7.heap.size (bvs x).toArray := ⟨_, rfl⟩
  obtain ⟨g8, hg8⟩ : ∃ g8, g8 = w7.heap.size := ⟨_, rfl⟩
  rw [← hW8] at r8 b8 ⊢
  rw [← hg8] at r8
  simp only [← hg8]
  have c8 := hb7.trans (b8.mono hb7.size)
  have kn8 := kn W8 c8
  have X8 : Sl W8 (some ⟨g8, 0, none⟩) (bvs x) := Sl.of_block r8 (fun j v hj => by simpa using hj)
  have HX8 := Lib.hid X8
  have C8 := Lib.hid c8
  clear hW8 r8 b8 hg8 km kn X8 c8 hb7
  go_upto_region 11 with (first
    | (go_at_call 25; (with_reducible refine kn8.mono ?_); rintro e w9 ⟨rfl, hb9⟩)
    | (refine wpList_store_row rfl 22 (.tmp 15) (.tmp 56) rfl w9.heap.size (bvs x).toArray rfl rfl 22 (bvs zs20).toArray (heap_alloc_new _ _) zx2.out HLX.out (one_bvs _) ?_))
  simp only [zlit]
  obtain ⟨r10, b10⟩ := new_set w9 22 (bvs zs20).toArray (bvs x).toArray
  obtain ⟨W10, hW10⟩ : ∃ W10, W10 = (w9.alloc (.cells (bvs zs20).toArray 22)).setRow w9.heap.size (bvs x).toArray := ⟨_, rfl⟩
  obtain ⟨g10, hg10⟩ : ∃ g10, g10 = w9.heap.size := ⟨_, rfl⟩
  rw [← hW10] at r10 b10 ⊢
  rw [← hg10] at r10
  simp only [← hg10]
  have c9 := C8.out.trans (hb9.mono C8.out.size)
  have c10 := c9.trans (b10.mono c9.size)
  have ky10 := ky W10 c10
  have X10 : Sl W10 (some ⟨g10, 0, none⟩) (bvs x) := Sl.of_block r10 (fun j v hj => by simpa using hj)
  have X8 : Sl W10 (some ⟨g8, 0, none⟩) (bvs x) := (HX8.out.below hb9).below b10
  have lx := load_id x XL.out _ _ X8
  have lx2 := load_id22 x XL.out _ _ X10
  have C10 := Lib.hid c10
  have e1 : ∀ w, (Op.equalIn 10000 23 (idv x) (idv x)).run Try.prog w = .ok true w := fun w => by rw [eqlIn_run 23 Try.underlying23 x x XL.out XL.out w, decide_eq_true rfl]
  have q1 : (bstr sh == bstr sh) = true := bstr_eq rfl
  clear hW10 r10 b10 hg10 kn8 ky X10 X8 c9 c10 HX8 C8 hb9
  go_upto_region 13 with (first
    | (refine wpList_loadG 23 (.tmp 13) rfl ⟨g8, 0, none⟩ rfl (idv x) lx rfl ?_)
    | (refine wpList_loadG 22 (.tmp 15) rfl ⟨g10, 0, none⟩ rfl (idv x) lx2 rfl ?_))
  have BB := Lib.hid (Hb0.out.trans ((HB6.out.trans (C10.out.mono HB6.out.size)).mono Hb0.out.size))
  have HI10 := Lib.hid (HI6.out.below C10.out)
  clear lx lx2 e1 q1 hrf Hb0 C10 HB6 HI6
  cases f with
  | false =>
    obtain rfl : sn = 6 := HSN.out rfl
    clear HMS HSN HSY ky10
    go_wp2
    go_ret
    exact ⟨rfl, BB.out⟩
  | true =>
    obtain rfl : sn = 0 := HSY.out rfl
    rw [HMS.out rfl] at ky10
    have zj := Lib.hid (info23 id HID.out)
    have hlj : (bvs zs20).toArray.size = (bvs id).toArray.size := by simp [HID.out, zs20_len]
    have HLJ := Lib.hid hlj
    clear HMS HSN HSY hlj
    go_upto_region 16 with (first
      | (go_at_call 24; (with_reducible refine ky10.mono ?_); rintro e w11 ⟨rfl, hb11⟩)
      | (refine wpList_store_row rfl 23 (.tmp 17) (.tmp 82) rfl w11.heap.size (bvs id).toArray rfl rfl 23 (bvs zs20).toArray (heap_alloc_new _ _) zj.out HLJ.out (one_bvs _) ?_))
    simp only [zlit]
    obtain ⟨r12, b12⟩ := new_set w11 23 (bvs zs20).toArray (bvs id).toArray
    obtain ⟨W12, hW12⟩ : ∃ W12, W12 = (w11.alloc (.cells (bvs zs20).toArray 23)).setRow w11.heap.size (bvs id).toArray := ⟨_, rfl⟩
    obtain ⟨g12, hg12⟩ : ∃ g12, g12 = w11.heap.size := ⟨_, rfl⟩
    rw [← hW12] at r12 b12 ⊢
    rw [← hg12] at r12
    simp only [← hg12]
    have c12 := hb11.trans (b12.mono hb11.size)
    have X12 : Sl W12 (some ⟨g12, 0, none⟩) (bvs id) := Sl.of_block r12 (fun j v hj => by simpa using hj)
    have lx := load_id id HID.out _ _ X12
    have li := load_id id HID.out _ _ (HI10.out.below c12)
    have e1 : ∀ w, (Op.equalIn 10000 23 (idv id) (idv id)).run Try.prog w = .ok true w := fun w => by rw [eqlIn_run 23 Try.underlying23 id id HID.out HID.out w, decide_eq_true rfl]
    have C12 := Lib.hid c12
    clear hW12 r12 b12 hg12 ky10 c12 hb11 X12
    go_wp2_with (first
      | (refine wpList_loadG 23 (.tmp 17) rfl ⟨g12, 0, none⟩ rfl (idv id) lx rfl ?_)
      | (refine wpList_loadG 23 (.tmp 4) rfl ⟨w.heap.size, 0, none⟩ rfl (idv id) li rfl ?_))
    go_ret
    exact ⟨rfl, BB.out.trans (C12.out.mono BB.out.size)⟩
theorem shorts_all (l : List (List UInt8)) (h20 : All20 l) (hm : l.length ≤ maxLen) (A : Option Addr) (c : Nat) (h0 : A = none → c = 0) (id : List UInt8) (hid : id.length = 20) (s : ByteArray) (w : World) (hA : Sl w A (idc l)) :
    Calls Try.prog 6 #[.slice A l.length c, idv id, .string s] w fun e w' => e = .returned (.bool true) ∧ Below w.heap.size w w' := by
  by_cases h : l.length ≤ 60
  · by_cases h2 : s.size ≤ 100
    · exact shorts_any l h20 h A c h0 id hid s h2 w hA
    · exact shorts_big l s (.inr ⟨h, by omega⟩) hm A c id w
  · exact shorts_big l s (.inl (by omega)) hm A c id w
end Go.Proofs.Ytjiiploleinobaa
