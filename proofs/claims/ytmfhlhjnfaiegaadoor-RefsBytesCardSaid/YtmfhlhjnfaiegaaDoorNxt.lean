/- Decode's 'next': the line ahead of the text that is left; the rest stays. Condition: at most 2^30 bytes. -/
import Derived.Test.YtmfhlhjnfaiegaaDoorFin
namespace Go.Proofs.YtmfhlhjnfaiegaaDoor
open Go.RowKit
set_option maxRecDepth 100000
set_option maxHeartbeats 1000000
set_option linter.unusedVariables false
theorem next_any (g : Nat) (s : List UInt8) (hs : s.length ≤ 1073741824) (w : World) (hg : GOk w) (hr : w.heap[g]? = some (.cells #[.string (bstr s)] 9 (0, 0))) :
    Calls Tryd.prog 23 #[.pointer (some ⟨g, 0, none⟩)] w fun e w' => e = .returned (.tuple #[.string (bstr (Lib.cut s [10]).1), .bool (Lib.cut s [10]).2.2]) ∧ w'.heap[g]? = some (.cells #[.string (bstr (Lib.cut s [10]).2.1)] 9 (0, 0)) ∧ Kp (fun k => k = g) w w' := by
  obtain ⟨mm, hm⟩ := hg
  have hc : w.cell? ⟨g, 0, none⟩ = some (.string (bstr s)) := by rw [cell_of_row _ _ _ _ _ _ hr]; rfl
  have ssz : (bstr s).size = s.length := by show s.toArray.size = _; simp
  have sdl : (bstr s).data.toList = s := by simp
  have kc := Tryd.strings_Cut (bstr s) ⟨#[10]⟩ mm w (by rw [ssz]; omega) hm
  rw [sdl] at kc
  have HR := Lib.hid hr
  have hf : ∀ k, (w.drewN k).frozen? ⟨g, 0, none⟩ = false := fun k => frozen_of_row _ _ _ _ _ hr
  clear hr hs ssz sdl hm
  go_enter Tryd.func23, Tryd.ntmps23
  go_wp2_with (go_at_call 24; (with_reducible refine kc.mono ?_); rintro e w1 ⟨rfl, k, rfl⟩; have hfk := hf k)
  go_ret2
  refine ⟨rfl, ?_, Kp.setCell (S := fun k => k = g) (Kp.drewN (Kp.refl _ w) k) (p := ⟨g, 0, none⟩) (.inl rfl) _⟩
  exact heap_setCell_same (w.drewN k) g 0 _ _ _ HR.out
/-- how much text is left -/
def leftN (g : Nat) (w : World) : Nat := match w.cell? ⟨g, 0, none⟩ with
  | some (.string b) => b.size
  | _ => 0
theorem leftN_is {g T : Nat} {s : List UInt8} {w : World} (h : w.heap[g]? = some (.cells #[.string (bstr s)] T (0, 0))) : leftN g w = s.length := by
  have hc : w.cell? ⟨g, 0, none⟩ = some (.string (bstr s)) := by rw [cell_of_row _ _ _ _ _ _ h]; rfl
  unfold leftN
  rw [hc]
  show s.toArray.size = _
  simp
theorem win_ne {w : World} {B g T : Nat} {v : Value} {l : List Rf} {cs : Array Value} (h : WinR w B v l) (hg : w.heap[g]? = some (.cells cs T (0, 0))) (hT : T ≠ 47) : ∀ k, v.ownBlock = some k → k ≠ g := by
  intro k hk e
  subst e
  rcases h.2 with ⟨rfl, _⟩ | ⟨g', off, cap, cur, rfl, _, hgr, _⟩
  · cases hk
  · injection hk with hk
    have : g' = k := hk
    subst this
    rw [hg] at hgr
    injection hgr with hgr
    injection hgr with _ e2
    exact hT e2
end Go.Proofs.YtmfhlhjnfaiegaaDoor
