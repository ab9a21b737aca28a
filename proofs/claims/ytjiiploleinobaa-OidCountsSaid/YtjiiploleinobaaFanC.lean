/- The reference's Fanout. Conditions: twenty bytes each, fewer than 256 names. -/
import Derived.Test.YtjiiploleinobaaFanB
import Derived.Laws.MakeOwn
import Derived.Deep.DeepCutAuto
namespace Go.Proofs.Ytjiiploleinobaa
open Go.RowKit
set_option maxRecDepth 100000
set_option maxHeartbeats 4000000
set_option linter.unusedVariables false
theorem Try.info3 : (Try.prog.info? 3).map (fun i => (i.zero, i.size, i.bytes)) = some (some (.int .i64 0), 1, 8) := by kernel_rfl
theorem made256 : madeCells (Value.int .i64 0).cells 256 = tab (fun _ => 0) := by kernel_rfl
theorem mk46 (w : World) : (Instr.makeSlice 46 (.int .i64 256) (.int .i64 256)).run Try.prog w = .ok (.slice (some ⟨w.heap.size, 0, none⟩) 256 256) (w.alloc (.cells (tab fun _ => 0) 3)) := by
  obtain ⟨i, hi, hz, hs, hb⟩ := info_parts Try.info3
  have := run_makeSlice (P := Try.prog) (w := w) 46 3 i (.int .i64 0) Try.underlying46 hi hz .i64 .i64 256 256 (by omega) (by omega) (by rw [hs]; decide) (by rw [hb]; decide) (by omega)
  rw [hs] at this
  exact this.trans (by rw [show (256 : Int).toNat * 1 = 256 from rfl, made256]; rfl)
/-- the state of the reference's Fanout -/
structure Fan3 (w W : World) (g : Nat) (f : Nat → Nat) : Prop where
  row : W.heap[g]? = some (.cells (tab f) 3 (0, 0))
  ge : w.heap.size ≤ g
  below : Below w.heap.size w W
theorem Fan3.cell {w W : World} {g : Nat} {f : Nat → Nat} (h : Fan3 w W g f) (i : Nat) (hi : i < 256) : W.cell? ⟨g, i, none⟩ = some (.int .i64 (f i : Int)) ∧ W.frozen? ⟨g, i, none⟩ = false :=
  ⟨by rw [cell_of_row _ _ _ _ _ _ h.row]; exact tab_at f i hi, frozen_of_row _ _ _ _ _ h.row⟩
theorem Fan3.set {w W : World} {g : Nat} {f f' : Nat → Nat} (h : Fan3 w W g f) (i : Nat) (hi : i < 256) (z : Int) (v : Nat) (hz : z = (v : Int)) (hf : ∀ j, j < 256 → f' j = if j = i then v else f j) : Fan3 w (W.setCell ⟨g, i, none⟩ (.int .i64 z)) g f' := by
  subst hz
  refine ⟨?_, h.ge, h.below.setCell (p := ⟨g, i, none⟩) h.ge _⟩
  have := heap_setCell_same W g i _ 3 (.int .i64 (v : Int)) h.row
  rw [tab_set f i v hi] at this
  rw [this, tab_congr hf]
theorem Fan3.congr {w W : World} {g : Nat} {f f' : Nat → Nat} (h : Fan3 w W g f) (hf : ∀ j, j < 256 → f j = f' j) : Fan3 w W g f' := ⟨by rw [h.row, tab_congr hf], h.ge, h.below⟩
theorem reffan_any (l : List (List UInt8)) (h20 : All20 l) (hn : l.length < 256) (A : Option Addr) (c : Nat) (w : World) (hA : Sl w A (idc l)) :
    Calls Try.prog 20 #[.slice A l.length c] w fun e w' => ∃ g, e = .returned (.slice (some ⟨g, 0, none⟩) 256 256) ∧ Fan3 w w' g (fan l) := by
  obtain ⟨n, hnn⟩ : ∃ n, n = l.length := ⟨_, rfl⟩
  rw [← hnn]
  have hn2 : n < 256 := by rw [hnn]; exact hn
  have hmk := mk46 w
  have fan0 : Fan3 w (w.alloc (.cells (tab fun _ => 0) 3)) w.heap.size (fan (l.take 0)) := ⟨heap_alloc_new _ _, Nat.le_refl _, (Below.refl _ _).alloc (Nat.le_refl _) _⟩
  have HN := Lib.hid hnn; have H20 := Lib.hid h20; have HA := Lib.hid hA
  clear hnn h20 hA hn
  go_enter Try.func20, Try.ntmps20
  go_wp2
  go_loopw [4] (fun t4 wr => ∃ i : Nat, t4 = .int .i64 (i : Int) ∧ i ≤ n ∧ Fan3 w wr w.heap.size (fan (l.take i))) (fun t4 _ => (n - intOf t4).toNat)
  case atStart => exact ⟨0, rfl, by omega, fan0⟩
  case round =>
    clear fan0 hmk
    obtain ⟨i, rfl, hi, hF⟩ := hrel
    by_cases hin : i < n
    · have hil : i < l.length := by rw [← HN.out]; exact hin
      obtain ⟨ad, rfl⟩ : ∃ ad, A = some ad := by
        cases A with
        | some ad => exact ⟨ad, rfl⟩
        | none =>
          have := sl_none HA.out H20.out
          rw [this] at hil
          simp at hil
      have hr := (sl_row HA.out H20.out i hil).below hF.below
      obtain ⟨x, hx⟩ : ∃ x, x = l.getD i [] := ⟨_, rfl⟩
      have hx20 := get20 H20.out i hil
      rw [← hx] at hr hx20
      obtain ⟨b, hb⟩ : ∃ b, b = x.getD 0 0 := ⟨_, rfl⟩
      have c0 : wr.cell? ((ad.add (i * 20))) = some (.int .u8 (b.toNat : Int)) := by
        obtain ⟨ad', e', h⟩ := Bs.at (l := x) hr (j := 0) (by rw [hx20]; omega)
        injection e' with e'
        subst e'
        rw [Addr.add_add, Nat.add_zero] at h
        rw [h, hb, List.getD_eq_getElem?_getD, List.getElem?_eq_getElem (by rw [hx20]; omega)]
        rfl
      have hfb : fst8 x = b.toNat := by unfold fst8; rw [hb]
      have hbl := b.toNat_lt
      have HX := Lib.hid hx; have HFB := Lib.hid hfb
      clear hx hx20 hr hb hfb
      obtain ⟨z, hz⟩ : ∃ z, z = b.toNat := ⟨_, rfl⟩
      rw [← hz] at c0 hbl
      have HZ := Lib.hid hz
      clear hz
      have hz256 : z ≤ 255 := by omega
      clear hbl
      go_wp2
      go_loopw [5] (fun t5 wq => ∃ k : Nat, t5 = .int .i64 (k : Int) ∧ z ≤ k ∧ k ≤ 256 ∧ Fan3 w wq w.heap.size (fun j => if z ≤ j ∧ j < k then fan (l.take i) j + 1 else fan (l.take i) j)) (fun t5 _ => (256 - intOf t5).toNat)
      case atStart => exact ⟨z, rfl, by omega, by omega, hF.congr (fun j _ => by rw [if_neg (by omega)])⟩
      case round =>
        clear hF c0
        obtain ⟨k, rfl, hk1, hk2, hF⟩ := hrel
        by_cases h256 : k < 256
        · obtain ⟨ck, fk⟩ := hF.cell k h256
          rw [if_neg (by omega)] at ck
          have hle := fan_le (l.take i) k
          rw [List.length_take] at hle
          obtain ⟨v, hv⟩ : ∃ v, v = fan (l.take i) k := ⟨_, rfl⟩
          rw [← hv] at ck hle
          have hv2 : v ≤ 256 := by omega
          have hF3 := hF.set (f' := fun j => if z ≤ j ∧ j < k + 1 then fan (l.take i) j + 1 else fan (l.take i) j) k h256 ((v : Int) + 1) (v + 1) (by omega) (fun j hj => by
            by_cases e : j = k
            · rw [if_pos e, if_pos (by omega), e, hv]
            · rw [if_neg e]
              by_cases e2 : z ≤ j ∧ j < k
              · rw [if_pos (by omega), if_pos e2]
              · rw [if_neg (by omega), if_neg e2])
          have HF3 := Lib.hid hF3
          clear hF hF3 hv hle
          go_wp2
          go_roundw
          case rel => exact ⟨k + 1, by simp, by omega, by omega, HF3.out⟩
          case measure => simp only [intOf]; omega
        · obtain rfl : k = 256 := by omega
          have hF2 := hF.congr (f' := fan (l.take (i + 1))) (fun j hj => by
            rw [fan_snoc l i hil, ← HX.out, HFB.out, ← HZ.out]
            by_cases e : z ≤ j
            · rw [if_pos ⟨e, hj⟩, if_pos e]
            · rw [if_neg (fun h => e h.1), if_neg e])
          have HF2 := Lib.hid hF2
          clear hF hF2
          go_wp2
          go_roundw
          case rel => exact ⟨i + 1, by simp, by omega, HF2.out⟩
          case measure => simp only [intOf]; omega
    · obtain rfl : i = n := by omega
      go_wp2
      go_ret
      exact ⟨w.heap.size, rfl, hF.congr (fun j _ => by rw [HN.out, List.take_of_length_le (Nat.le_refl _)])⟩
end Go.Proofs.Ytjiiploleinobaa
