/- trovelaw13.DeltaSteps answers true at any steps and any sizes; an argument of steps as the row's frame hands it over. No condition. -/
import Derived.Test.YtpfjkappgdpfbaaDelCp
import Derived.Deep.Slices
import Derived.OpenShut
namespace Go.Proofs.Ytpfjkappgdpfbaa
open Go.RowKit Go.ChangeShapes Go.WideShapes
set_option maxRecDepth 100000
set_option maxHeartbeats 8000000
set_option linter.unusedVariables false
/-- an argument of steps -/
theorem ops_of_trod {H : Type} {enc : TypeId × Value → H} {w : World} {base : Nat} {held : Bool} {fuel : Nat} {A : Option Addr} {n c : Nat} {x : DataW H × List MemPlace}
    (h : DataW.trod enc Try.prog w base (fun _ => true) held fuel 35 [.slice A n c] = some x) : ∃ l : List DOp, n = l.length ∧ l.length ≤ c ∧ c ≤ maxLen ∧ OpsR w A l := by
  rcases Go.Deep.open_slice Try.underlying35 h with ⟨hcs, _⟩ | ⟨a, len, cap, m, k, D, Pl, hcs, hb, hl, hm, hmm, _, hx⟩
  · simp at hcs
    obtain ⟨rfl, rfl, rfl⟩ := hcs
    exact ⟨[], rfl, by simp, by simp, fun k o ho => by simp at ho⟩
  · simp at hcs
    obtain ⟨rfl, rfl, rfl⟩ := hcs
    simp only [if_true] at hmm
    have ce : Try.prog.cellsOf 37 = 4 := by kernel_rfl
    have c0 : Try.prog.cellsOf 4 = 1 := by kernel_rfl
    have c1 : Try.prog.cellsOf 3 = 1 := by kernel_rfl
    have c3 : Try.prog.cellsOf 22 = 1 := by kernel_rfl
    have each : ∀ i, i < n → ∃ o : DOp, ∃ Ad cd, Sl w (some (a.add (i * 4))) (opCells (.slice Ad o.data.length cd) o) ∧ o.data.length ≤ cd ∧ cd ≤ maxLen ∧ Bs w Ad o.data := by
      intro i hi
      obtain ⟨cs', h1, h2⟩ := hx i (by omega)
      rw [ce] at h1
      obtain ⟨_, hlen, hcell⟩ := World.cells?_some h1
      obtain ⟨xs, k', hk, hxy, _, hxl, hf⟩ := DataW.trod_struct Try.underlying37 h2
      match xs, hxl, cs', hlen with
      | [y0, y1, y2, y3], _, [v0, v1, v2, v3], _ =>
        have g0 := hf 0 _ rfl
        have g1 := hf 1 _ rfl
        have g2 := hf 2 _ rfl
        have g3 := hf 3 _ rfl
        simp [c0, c1, c3] at g0 g1 g2 g3
        obtain ⟨b, e0, _⟩ := DataW.trod_bool Try.underlying4 g0
        obtain ⟨fr, e1, _⟩ := DataW.trod_int Try.underlying3 g1
        obtain ⟨nn, e2, _⟩ := DataW.trod_int Try.underlying3 g2
        simp at e0 e1 e2
        have e3 : ∃ (d : List UInt8) (Ad : Option Addr) (cd : Nat), v3 = .slice Ad d.length cd ∧ d.length ≤ cd ∧ cd ≤ maxLen ∧ Bs w Ad d := by
          rcases open_ints Try.underlying22 Try.underlying5 (by kernel_rfl) g3 with ⟨hcs, _⟩ | ⟨x, l, c, zs, hcs, _, hl, hm, hz, _, hcell, hwz⟩
          · simp at hcs
            exact ⟨[], none, 0, by rw [hcs]; rfl, by simp, by simp, Sl.nil _ _⟩
          · simp at hcs
            obtain ⟨d, d1, d2, d3, d4⟩ := bytes_of_row (w := w) (a := some x) (len := l) (cap := c) (.inr ⟨_, rfl, hl, hm, by simpa using hz, hcell, hwz⟩)
            exact ⟨d, some x, c, by rw [hcs, d1], d2, d3, d4⟩
        obtain ⟨d, Ad, cd, e3, f1, f2, f3⟩ := e3
        refine ⟨⟨b, fr, nn, d⟩, Ad, cd, fun j v hj => ⟨_, rfl, ?_⟩, f1, f2, f3⟩
        subst e0 e1 e2 e3
        have hj4 : j < 4 := by
          rcases Nat.lt_or_ge j 4 with h | h
          · exact h
          · rw [List.getElem?_eq_none (by simpa [opCells] using h)] at hj; cases hj
        have := hcell j hj4
        rw [this]
        simpa [opCells] using hj
    haveI : Inhabited DOp := ⟨⟨false, 0, 0, []⟩⟩
    obtain ⟨V, hV⟩ := Go.Deep.choose_lt each
    refine ⟨(List.range n).map V, by simp, by simpa using hl, hm, fun k o ho => ?_⟩
    have hk : k < n := by
      rcases Nat.lt_or_ge k n with h | h
      · exact h
      · rw [List.getElem?_eq_none (by simpa using h)] at ho; cases ho
    simp only [List.getElem?_map, List.getElem?_range hk, Option.map_some, Option.some.injEq] at ho
    subst ho
    obtain ⟨Ad, cd, g1, g2, g3, g4⟩ := hV k hk
    exact ⟨a, Ad, cd, rfl, g1, g2, g3, g4⟩
theorem parse29n (A : Option Addr) (n c : Nat) (d : List UInt8) (w : World) (hn : n = d.length) (hl : d.length ≤ 1099511627776) (hc : n ≤ c) (hA : Bs w A d) (a b : Nat) (ops : List DOp) (er : Nat) (h : deltaR d = (a, b, ops, er)) :
    Calls Try.prog 29 #[.slice A n c] w fun e w' => ∃ A' c', e = .returned (.tuple #[.int .i64 a, .int .i64 b, .slice A' ops.length c', .int .i64 er]) ∧ OpsR w' A' ops ∧ Below w.heap.size w w' := by
  subst hn
  exact parse29 A c d w hl hc hA a b ops er h
theorem deltaSteps_any (b o : Int) (A : Option Addr) (c : Nat) (l : List DOp) (w : World) (hb : b < 9223372036854775808) (ho : o < 9223372036854775808) (hc : l.length ≤ c) (hA : OpsR w A l) :
    Calls Try.prog 8 #[.int .i64 b, .int .i64 o, .slice A l.length c] w fun e w' => e = .returned (.bool true) ∧ Below w.heap.size w w' := by
  by_cases h1 : 60 < l.length
  · go_enter Try.func8, Try.ntmps8
    go_wp2_with (go_at_call 25; refine (known_any _).mono ?_; rintro e w1 ⟨rfl, hb1⟩)
    go_ret
    exact ⟨rfl, hb1⟩
  go_enter Try.func8, Try.ntmps8
  go_wp2_with (go_at_call 25; (with_reducible refine (known_any _).mono ?_); rintro e w1 ⟨rfl, hb1⟩)
  have hA1 := hA.below hb1
  go_loopw [7] (fun t7 wr => ∃ k : Nat, t7 = .int .i64 k ∧ k ≤ l.length ∧ wr = w1) (fun t7 _ => l.length - (intOf t7).toNat)
  case atStart => exact ⟨0, rfl, by omega, rfl⟩
  case round =>
    obtain ⟨k, rfl, hk, rfl⟩ := hrel
    by_cases hlt : k < l.length
    · obtain ⟨ad, Ad, cd, rfl, hcells, hcd, hmd, hdata⟩ := hA1 k l[k] (by simp [hlt])
      have f3 := Sl.field hcells 3 _ (by decide) rfl
      obtain ⟨p, hp⟩ : ∃ p, p = l[k].data.length := ⟨_, rfl⟩
      rw [← hp] at f3
      clear hcells hdata hp
      by_cases e1 : 300 < p
      · go_wp2
        go_ret
        exact ⟨rfl, hb1⟩
      · go_wp2
        go_roundw
        case rel => exact ⟨k + 1, by go_num, by omega, by first | rfl | trivial⟩
        case measure => simp [intOf]; omega
    · obtain rfl : k = l.length := by omega
      have HA := Lib.hid hA1
      clear hA hA1
      by_cases hg : 0 ≤ b ∧ 0 ≤ o ∧ ∀ p ∈ l, okOp p
      · obtain ⟨hb0, ho0, hok⟩ := hg
        obtain ⟨bn, rfl⟩ : ∃ bn : Nat, b = bn := ⟨b.toNat, by omega⟩
        obtain ⟨on, rfl⟩ : ∃ on : Nat, o = on := ⟨o.toNat, by omega⟩
        have p1 : printR bn on l = (putSize bn ++ putSize on ++ encs l, 0) := printR_good (by omega) hok
        have p2 := (deltaR_print bn on (by omega) (by omega) l hok).2
        have l1 := putSize_len bn 9 (by omega) (by decide)
        have l2 := putSize_len on 9 (by omega) (by decide)
        have l3 := encs_len l hok
        obtain ⟨dm, hdm⟩ : ∃ dm, dm = putSize bn ++ putSize on ++ encs l := ⟨_, rfl⟩
        have dl : dm.length ≤ 10000 := by rw [hdm, List.length_append, List.length_append]; omega
        rw [← hdm] at p1 p2
        obtain ⟨m, hm⟩ : ∃ m, m = dm.length := ⟨_, rfl⟩
        have P1 := Lib.hid p1; have P2 := Lib.hid p2; have DL := Lib.hid dl; have HM := Lib.hid hm
        clear p1 p2 dl hm hdm l1 l2 l3 hok
        go_wp2_with (first
          | (go_at_call 26; (with_reducible refine (print26 bn on A l.length c l wr _ (by omega) (by omega) (by omega) HA.out rfl P1.out).mono ?_); rintro e w8 ⟨v8, rfl, hw8, hb8⟩
             obtain ⟨A8, c8, rfl, hc8, _, hr8⟩ := WinB.readsN (n := m) hw8 HM.out.symm
             have B8 := hb1.trans (hb8.mono hb1.size))
          | (go_at_call 28; (with_reducible refine (of_any A c l w8 (by omega) (HA.out.below hb8)).mono ?_); rintro e w9 ⟨A9, c9, rfl, _, _, ho9, hb9⟩
             have B9 := B8.trans (hb9.mono B8.size))
          | (go_at_call 27; (with_reducible refine (print27 bn on A9 l.length c9 l w9 _ (by omega) (by omega) (by omega) ho9 rfl P1.out).mono ?_); rintro e w10 ⟨v10, rfl, hw10, hb10⟩
             obtain ⟨A10, c10, rfl, hc10, _, hr10⟩ := WinB.readsN (n := m) hw10 HM.out.symm
             have B10 := B9.trans (hb10.mono B9.size)
             have hb810 := hb9.trans (hb10.mono hb9.size)
             have e1 : (convert 22 9 (.slice A8 m c8)).run Try.prog w10 = .ok (.string (bstr dm)) w10 := conv22 (Sl.below hr8 hb810) HM.out
             have e2 : (convert 22 9 (.slice A10 m c10)).run Try.prog w10 = .ok (.string (bstr dm)) w10 := conv22 hr10 HM.out)
          | (go_at_call 29; (with_reducible refine (parse29n A8 m c8 dm w10 HM.out (by have := DL.out; omega) hc8 (Sl.below hr8 hb810) _ _ _ _ P2.out).mono ?_); rintro e w11 ⟨A11, c11, rfl, ho11, hb11⟩
             have B11 := B10.trans (hb11.mono B10.size)
             have hb811 := hb810.trans (hb11.mono hb810.size))
          | (go_at_call 28; (with_reducible refine (of_any A c l w11 (by omega) (HA.out.below (hb8.trans (hb811.mono hb8.size)))).mono ?_); rintro e w12 ⟨A12, c12, rfl, _, _, ho12, hb12⟩
             have B12 := B11.trans (hb12.mono B11.size)
             have ks := same_any A11 c11 l A12 c12 l w12 (by omega) (by omega) (ho11.below hb12) ho12
             rw [decide_eq_true (rfl : l = l)] at ks
             have KS := Lib.hid ks
             clear ks)
          | (go_at_call 30; (with_reducible refine KS.out.mono ?_); rintro e w13 ⟨rfl, hb13⟩))
        go_ret
        exact ⟨rfl, B12.trans (hb13.mono B12.size)⟩
      · have p1 : printR b o l = ([], 1) := if_pos (by
          by_cases x1 : b < 0
          · exact .inl x1
          by_cases x2 : o < 0
          · exact .inr (.inl x2)
          exact .inr (.inr (fun h => hg ⟨by omega, by omega, h⟩)))
        have P1 := Lib.hid p1
        clear p1 hg
        go_wp2_with (first
          | (go_at_call 26; (with_reducible refine (print26 b o A l.length c l wr _ hb ho (by omega) HA.out rfl P1.out).mono ?_); rintro e w8 ⟨v8, rfl, hw8, hb8⟩
             obtain ⟨A8, c8, rfl, hc8, _, hr8⟩ := WinB.readsN (n := 0) hw8 rfl
             have B8 := hb1.trans (hb8.mono hb1.size))
          | (go_at_call 28; (with_reducible refine (of_any A c l w8 (by omega) (HA.out.below hb8)).mono ?_); rintro e w9 ⟨A9, c9, rfl, _, _, ho9, hb9⟩
             have B9 := B8.trans (hb9.mono B8.size))
          | (go_at_call 27; (with_reducible refine (print27 b o A9 l.length c9 l w9 _ hb ho (by omega) ho9 rfl P1.out).mono ?_); rintro e w10 ⟨v10, rfl, hw10, hb10⟩
             obtain ⟨A10, c10, rfl, hc10, _, hr10⟩ := WinB.readsN (n := 0) hw10 rfl
             have B10 := B9.trans (hb10.mono B9.size)
             have e1 : (convert 22 9 (.slice A8 0 c8)).run Try.prog w10 = .ok (.string (bstr [])) w10 := conv22 (Sl.below hr8 (hb9.trans (hb10.mono hb9.size))) rfl
             have e2 : (convert 22 9 (.slice A10 0 c10)).run Try.prog w10 = .ok (.string (bstr [])) w10 := conv22 hr10 rfl))
        go_ret
        exact ⟨rfl, B10⟩
end Go.Proofs.Ytpfjkappgdpfbaa
