/- OidRows answers true, out of pdqsort's contract. Conditions: each name has twenty bytes. -/
import Derived.Test.YtjiiploleinobaaSrtS
import Derived.Test.YtjiiploleinobaaRefR
import Derived.Test.YtjiiploleinobaaRefD
import Derived.Test.YtjiiploleinobaaFanC
namespace Go.Proofs.Ytjiiploleinobaa
open Go.RowKit
open Go.Sort (ltStr)
set_option maxRecDepth 100000
set_option maxHeartbeats 4000000
set_option linter.unusedVariables false
def W_fan (W : World) (g : Nat) (f : Nat → Nat) : Prop := W.heap[g]? = some (.cells (tab f) 3 (0, 0))
theorem W_fan.out {W : World} {g : Nat} {f : Nat → Nat} (h : W_fan W g f) : W.heap[g]? = some (.cells (tab f) 3 (0, 0)) := h
def AllPQ : Prop := ∀ g n cap, n ≤ cap → n < 256 → PdqOK (.slice (some ⟨g, 0, none⟩) n cap) n g
theorem rows_big (l : List (List UInt8)) (hn : 60 < l.length) (hm : l.length ≤ maxLen) (A : Option Addr) (c : Nat) (id : List UInt8) (w : World) :
    Calls Try.prog 5 #[.slice A l.length c, idv id] w fun e w' => e = .returned (.bool true) ∧ Below w.heap.size w w' := by
  have hb0 : Below w.heap.size w (w.alloc (.cells (bvs id).toArray 23)) := (Below.refl _ _).alloc (Nat.le_refl _) _
  have HB0 := Lib.hid hb0
  generalize l.length = n at *
  clear hb0
  go_enter Try.func5, Try.ntmps5
  go_wp2_with (go_at_call 8; (with_reducible refine (known_any _).mono ?_); rintro e w1 ⟨rfl, hb1⟩)
  go_ret
  exact ⟨rfl, HB0.out.trans (hb1.mono HB0.out.size)⟩
theorem rows_any (hPQ : AllPQ) (l : List (List UInt8)) (h20 : All20 l) (hn : l.length ≤ 60) (A : Option Addr) (c : Nat) (h0 : A = none → c = 0) (id : List UInt8) (hid : id.length = 20) (w : World) (hA : Sl w A (idc l)) :
    Calls Try.prog 5 #[.slice A l.length c, idv id] w fun e w' => e = .returned (.bool true) ∧ Below w.heap.size w w' := by
  obtain ⟨W0, hW0⟩ : ∃ W0, W0 = w.alloc (.cells (bvs id).toArray 23) := ⟨_, rfl⟩
  have hb0 : Below w.heap.size w W0 := by rw [hW0]; exact (Below.refl _ _).alloc (Nat.le_refl _) _
  have I0 : Sl W0 (some ⟨w.heap.size, 0, none⟩) (bvs id) := by
    rw [hW0]
    exact Sl.of_block (heap_alloc_new _ _) (fun j v hj => by simpa using hj)
  have ks := fun w1 (h : Sl w1 A (idc l)) => sort14 hPQ l h20 (by omega) A c w1 h h0
  have ko := fun w1 (h : Sl w1 A (idc l)) => of_any l h20 (by omega) A c w1 h
  have kr := fun A' c' w1 (h : Sl w1 A' (idc l)) => refsort_any l h20 (by omega) A' c' w1 h
  obtain ⟨sr, s20, sl, sm⟩ := sortI_ok l h20 l.length (Nat.le_refl _)
  rw [List.take_of_length_le (Nat.le_refl _)] at sm
  obtain ⟨M, hM⟩ : ∃ M, M = sortI l l.length := ⟨_, rfl⟩
  rw [← hM] at sr s20 sl sm
  simp only [← hM] at kr
  have HW0 := Lib.hid hW0; have HI0 := Lib.hid I0; have Hb0 := Lib.hid hb0; have HA0 := Lib.hid (hA.below hb0)
  have H20 := Lib.hid h20; have HID := Lib.hid hid; have HSR := Lib.hid sr; have HS20 := Lib.hid s20; have HSM := Lib.hid sm
  have hml : M.length < 256 := by omega
  obtain ⟨n, hnn⟩ : ∃ n, n = l.length := ⟨_, rfl⟩
  rw [← hnn] at ks ko kr hn ⊢
  have HN := Lib.hid hnn
  clear hW0 I0 hb0 hA h20 hid sr s20 sm hnn hM h0 sl
  go_enter Try.func5, Try.ntmps5
  go_upto_region 1 with (fail)
  rw [← HW0.out]
  go_upto_region 5 with (go_at_call 8; (with_reducible refine (known_any _).mono ?_); rintro e w1 ⟨rfl, hb1⟩)
  have k1 := ks w1 (HA0.out.below hb1)
  clear ks
  go_upto_region 6 with (go_at_call 14; (with_reducible refine k1.mono ?_); rintro e w2 ⟨A2, L, rfl, hS2⟩)
  have hLM : L = M := ris_unique L M hS2.ris HSR.out (fun x => by rw [hS2.mem x, HSM.out x])
  subst hLM
  have hb2 := hb1.trans (hS2.below.mono hb1.size)
  have HS2 := Lib.hid hS2.sl
  have k2 := ko w2 (HA0.out.below hb2)
  clear ko hS2 k1 hb1
  go_upto_region 7 with (first
    | (go_at_call 16; (with_reducible refine k2.mono ?_); rintro e w3 ⟨v3, rfl, hown3, hb3⟩
       obtain ⟨A3, c3, rfl, hs3⟩ : ∃ A3 c3, v3 = .slice A3 n c3 ∧ Sl w3 A3 (idc l) := by
         obtain ⟨A3, c3, hv, _, _, hs⟩ := (Win.ofOwns hown3).reads
         exact ⟨A3, c3, by rw [hv, HN.out], hs⟩
       have k3 := kr A3 c3 w3 hs3)
    | (go_at_call 15; (with_reducible refine k3.mono ?_); rintro e w4 ⟨A4, c4, rfl, hs4, hb4⟩))
  have b3 := hb2.trans (hb3.mono hb2.size)
  have b4 := b3.trans (hb4.mono b3.size)
  have HS2 := Lib.hid ((HS2.out.below hb3).below hb4)
  have li4 := load_id id HID.out _ _ (HI0.out.below b4)
  have kf := find_any L HSR.out HS20.out hml A2 L.length id HID.out w4 HS2.out
  have HS4 := Lib.hid hs4
  clear hown3 hs3 k2 k3 kr hb3 hb4 hb2 b3 hs4
  go_upto_region 8 with (first
    | (refine wpList_loadG 23 (.tmp 3) rfl ⟨w.heap.size, 0, none⟩ rfl (idv id) li4 rfl ?_)
    | (go_at_call 17; (with_reducible refine kf.mono ?_); rintro e w5 ⟨rfl, hb5⟩))
  have b5 := b4.trans (hb5.mono b4.size)
  have li5 := load_id id HID.out _ _ (HI0.out.below b5)
  have kg := reffind_any L HS20.out hml A4 c4 id HID.out w5 (HS4.out.below hb5)
  clear kf li4
  go_upto_region 9 with (first
    | (refine wpList_loadG 23 (.tmp 3) rfl ⟨w.heap.size, 0, none⟩ rfl (idv id) li5 rfl ?_)
    | (go_at_call 18; (with_reducible refine kg.mono ?_); rintro e w6 ⟨rfl, hb6⟩))
  have b6 := b5.trans (hb6.mono b5.size)
  have kh := fanout_any L HS20.out hml A2 L.length w6 ((HS2.out.below hb5).below hb6)
  have z44 : (Try.prog.info? 44).map (·.size) = some (tab (fan L)).size := by rw [tab_size]; kernel_rfl
  have Z44 := Lib.hid z44
  obtain ⟨T, hT⟩ : ∃ T, T = tab (fan L) := ⟨_, rfl⟩
  rw [← hT] at kh Z44
  have HT := Lib.hid hT
  have TO := Lib.hid (tab_one (fan L))
  rw [← hT] at TO
  clear kg li5 z44 hT
  go_upto_region 10 with (first
    | (go_at_call 19; (with_reducible refine kh.mono ?_); rintro e w7 ⟨rfl, hb7⟩)
    | (refine wpList_store_row rfl 44 (.tmp 11) (.tmp 38) rfl w7.heap.size T rfl rfl 44 Try.zeroCells44 (heap_alloc_new _ _) Z44.out (by rw [HT.out, tab_size, zero44, tab_size]) TO.out ?_))
  obtain ⟨r8, b8⟩ := new_set w7 44 Try.zeroCells44 T
  obtain ⟨W8, hW8⟩ : ∃ W8, W8 = (w7.alloc (.cells Try.zeroCells44 44)).setRow w7.heap.size T := ⟨_, rfl⟩
  obtain ⟨g8, hg8⟩ : ∃ g8, g8 = w7.heap.size := ⟨_, rfl⟩
  rw [← hW8] at r8 b8 ⊢
  rw [← hg8] at r8
  simp only [← hg8]
  have b7 := b6.trans (hb7.mono b6.size)
  have bb8 := b7.trans (b8.mono b7.size)
  have HS2 := Lib.hid ((((HS2.out.below hb5).below hb6).below hb7).below b8)
  have HS4 := Lib.hid ((((HS4.out.below hb5).below hb6).below hb7).below b8)
  have ki := reffan_any L HS20.out hml A4 c4 W8 HS4.out
  have R8 := Lib.hid r8
  clear hW8 r8 b8 hb5 hb6 hb7 b4 b5 b6 b7 kh hg8 Z44 TO
  go_upto_region 11 with (go_at_call 20; (with_reducible refine ki.mono ?_); rintro e w9 ⟨g9, rfl, hf9⟩)
  have b9 := bb8.trans (hf9.below.mono bb8.size)
  have HF9 := Lib.hid hf9
  have HS2 := Lib.hid (HS2.out.below hf9.below)
  have HS4 := Lib.hid (HS4.out.below hf9.below)
  have R9 := Lib.hid ((hf9.below.block _ (Array.getElem?_eq_some_iff.1 R8.out).1).trans R8.out)
  have kj := same_any L L HS20.out HS20.out hml hml A2 A4 L.length c4 w9 HS2.out HS4.out
  rw [decide_eq_true rfl] at kj
  clear ki hf9 R8 bb8
  have hne : ((fk L id : Int) == (fk L id : Int)) = true := beq_self_eq_true _
  go_upto_block 0 with (go_at_call 21; (with_reducible refine kj.mono ?_); rintro e w10 ⟨rfl, hb10⟩)
  have b10 := b9.trans (hb10.mono b9.size)
  have HS2 := Lib.hid (HS2.out.below hb10)
  have R10 := Lib.hid ((hb10.block _ (Array.getElem?_eq_some_iff.1 R9.out).1).trans R9.out)
  have HF10 : W_fan w10 g9 (fan L) := ((hb10.block _ (Array.getElem?_eq_some_iff.1 HF9.out.row).1).trans HF9.out.row)
  have F10 := Lib.hid HF10
  clear HF10 R9 HF9 HS4 b9 hb10 kj hne
  go_wp2_with fail
  go_loopw [13] (fun tv wr => ∃ i : Nat, tv = .int .i64 (i : Int) ∧ i ≤ 256 ∧ Below w10.heap.size w10 wr) (fun tv _ => (256 - intOf tv).toNat)
  case atStart => exact ⟨0, rfl, by omega, Below.refl _ _⟩
  case round =>
    obtain ⟨i, rfl, hi, hbw⟩ := hrel
    by_cases h256 : i < 256
    · have c1 : wr.cell? ⟨g8, i, none⟩ = some (.int .i64 (fan L i : Int)) := by
        rw [cell_of_row _ _ _ _ _ _ ((hbw.block _ (Array.getElem?_eq_some_iff.1 R10.out).1).trans R10.out), HT.out]
        exact tab_at _ i h256
      have c2 : wr.cell? ⟨g9, i, none⟩ = some (.int .i64 (fan L i : Int)) := by
        rw [cell_of_row _ _ _ _ _ _ ((hbw.block _ (Array.getElem?_eq_some_iff.1 F10.out).1).trans F10.out)]
        exact tab_at _ i h256
      generalize (fan L i : Int) = z at c1 c2
      go_wp2
      go_quiet (fail)
      go_wp2
      go_roundw
      case rel => exact ⟨i + 1, by simp, by omega, Below.drewN hbw _⟩
      case measure => simp only [intOf]; omega
    · obtain rfl : i = 256 := by omega
      have bA := b10.trans (hbw.mono b10.size)
      have HS2 := Lib.hid (HS2.out.below hbw)
      clear R10 F10 hbw b10
      obtain ⟨m, hmm⟩ : ∃ m, m = L.length := ⟨_, rfl⟩
      rw [← hmm] at hml
      simp only [← hmm]
      have HMM := Lib.hid hmm
      clear hmm
      go_wp2
      go_loopw [14] (fun tv wq => ∃ i : Nat, tv = .int .i64 (i : Int) ∧ 1 ≤ i ∧ (i ≤ m ∨ i = 1) ∧ Below wr.heap.size wr wq) (fun tv _ => (m - intOf tv).toNat)
      case atStart => exact ⟨1, rfl, by omega, .inr rfl, Below.refl _ _⟩
      case round =>
        obtain ⟨i, rfl, hi1, hi2, hbw⟩ := hrel
        by_cases him : i < m
        · obtain ⟨k, hk⟩ : ∃ k, i = k + 1 := ⟨i - 1, by omega⟩
          have hkm : k < m := by omega
          have hwk : IntKind.i64.wrap ((i : Int) - 1) = (k : Int) := by rw [IntWalk.i64_in _ (by omega)]; omega
          have hiL : i < L.length := by rw [← HMM.out]; exact him
          have hkL : k < L.length := by rw [← HMM.out]; exact hkm
          obtain ⟨ad, rfl⟩ : ∃ ad, A2 = some ad := by
            cases A2 with
            | some ad => exact ⟨ad, rfl⟩
            | none =>
              have := sl_none HS2.out HS20.out
              rw [this] at hiL
              simp at hiL
          have hrx := (sl_row HS2.out HS20.out k hkL).below hbw
          have hry := (sl_row HS2.out HS20.out i hiL).below hbw
          have hx20 := get20 HS20.out k hkL
          have hy20 := get20 HS20.out i hiL
          have hlt : ltStr (L.getD k []) (L.getD i []) = true := by
            simp only [ltStr, decide_eq_true_eq]
            exact ris_lt HSR.out (by omega) hiL
          have hgt : ltStr (L.getD i []) (L.getD k []) = false := Go.Sort.SWO.asymm Go.Sort.swo_ltStr hlt
          generalize L.getD k [] = x at hrx hx20 hlt hgt
          generalize L.getD i [] = y at hry hy20 hlt hgt
          have lx : ∀ w', Below wr.heap.size wr w' → (loadVar 23 (ad.add (k * 20))).run Try.prog w' = .ok (idv x) w' := fun w' h => load_id x hx20 _ _ (hrx.below h)
          have ly : ∀ w', Below wr.heap.size wr w' → (loadVar 23 (ad.add (i * 20))).run Try.prog w' = .ok (idv y) w' := fun w' h => load_id y hy20 _ _ (hry.below h)
          have c1 : ∀ w', Below wr.heap.size wr w' → Calls Try.prog 13 #[idv x, idv y] w' fun e w'' => e = .returned (.bool true) ∧ Below wr.heap.size wr w'' := fun w' h => by
            have := quietB h (less_any x y w' hx20 hy20); rwa [cmp_str, hlt] at this
          have c2 : ∀ w', Below wr.heap.size wr w' → Calls Try.prog 13 #[idv y, idv x] w' fun e w'' => e = .returned (.bool false) ∧ Below wr.heap.size wr w'' := fun w' h => by
            have := quietB h (less_any y x w' hy20 hx20); rwa [cmp_str, hgt] at this
          have LX := Lib.hid lx; have LY := Lib.hid ly
          have hk' := Lib.hid hk
          clear lx ly hrx hry hx20 hy20 hlt hgt hk
          go_wp2
          refine wp_region_quietC (C := fun w' => Below wr.heap.size wr w') (Below.refl _ _).drew (by kernel_rfl) (by kernel_rfl) ?_
          repeat (first
            | (refine wpQuiet_load 23 (.tmp 76) rfl (ad.add (k * 20)) rfl (idv x) LX.out _ rfl rfl ?_; simp only [List.set_cons_succ, List.set_cons_zero])
            | (refine wpQuiet_load 23 (.tmp 80) rfl (ad.add (i * 20)) rfl (idv y) LY.out _ rfl rfl ?_; simp only [List.set_cons_succ, List.set_cons_zero])
            | (refine wpQuiet_load 23 (.tmp 87) rfl (ad.add (i * 20)) rfl (idv y) LY.out _ rfl rfl ?_; simp only [List.set_cons_succ, List.set_cons_zero])
            | (refine wpQuiet_load 23 (.tmp 92) rfl (ad.add (k * 20)) rfl (idv x) LX.out _ rfl rfl ?_; simp only [List.set_cons_succ, List.set_cons_zero])
            | go_big_quiet_step ((intro hb; first | (with_reducible exact c1 _ hb) | (with_reducible exact c2 _ hb) | rfl)))
          refine wpQuiet_nil ?_
          intro w' hw'
          go_wp2
          go_roundw
          case rel => exact ⟨i + 1, by simp, by omega, by omega, hbw.trans (hw'.mono hbw.size)⟩
          case measure => simp only [intOf]; omega
        · go_wp2
          go_ret
          exact ⟨rfl, Hb0.out.trans ((bA.trans (hbw.mono bA.size)).mono Hb0.out.size)⟩
end Go.Proofs.Ytjiiploleinobaa
