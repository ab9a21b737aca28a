/- What a loop of the sort keeps: whatever sorts the part that is left sorts the whole. No condition. -/
import Derived.Sort.AssemblyPlain
namespace Go.Proofs.Ytjiiploleinobaa
open Go.Sort (swp SWO PermIn SortedIn permIn_trans permIn_refl)
section
variable {α : Type} [Inhabited α] {lt : α → α → Bool}
/-- the part [x, y) of D is left: whatever sorts it sorts [a, b) of d -/
structure Lft (lt : α → α → Bool) (a b : Nat) (d : Array α) (x y : Nat) (D : Array α) : Prop where
  ord : x ≤ y
  top : y ≤ D.size
  low : Go.Sort.Below lt x y D
  fin : ∀ R, PermIn x y D R → SortedIn lt x y R → PermIn a b d R ∧ SortedIn lt a b R
theorem Lft.start {a b : Nat} {d : Array α} (hab : a ≤ b) (hb : b ≤ d.size) (hl : Go.Sort.Below lt a b d) : Lft lt a b d a b d := ⟨hab, hb, hl, fun _ h k => ⟨h, k⟩⟩
theorem Lft.perm {a b x y : Nat} {d D D' : Array α} (h : Lft lt a b d x y D) (hp : PermIn x y D D') : Lft lt a b d x y D' :=
  ⟨h.ord, by rw [hp.1]; exact h.top, h.low.perm h.top hp, fun R hR hs => h.fin R (permIn_trans _ _ _ x y hp hR) hs⟩
theorem Lft.eq (hO : SWO lt) {a b x y p mid : Nat} {d D D' : Array α} (h : Lft lt a b d x y D) (hx : 0 < x) (hp1 : x ≤ p) (hp2 : p < y) (hnl : lt D[x - 1]! D[p]! = false) (he : Go.Sort.partitionEqual lt D x y p = (mid, D')) :
    x < mid ∧ Lft lt a b d mid y D' := by
  obtain ⟨h1, h2, h3, h4, h5⟩ := Go.Sort.round_eq hO (Go.Sort.partitionEqual_holds lt) hx hp1 hp2 h.top h.low hnl he
  exact ⟨h1, h2, by rw [h3]; exact h.top, h4, fun R hR hs => by obtain ⟨q1, q2⟩ := h5 R hR hs; exact h.fin R q1 q2⟩
theorem Lft.part (hO : SWO lt) {a b x y p mid : Nat} {q : Bool} {d D D' : Array α} (h : Lft lt a b d x y D) (hp1 : x ≤ p) (hp2 : p < y) (he : Go.Sort.partition lt D x y p = (mid, q, D')) :
    x ≤ mid ∧ mid < y ∧ y ≤ D'.size ∧ Go.Sort.Below lt x mid D' ∧ Go.Sort.Below lt (mid + 1) y D' ∧
    (∀ L, PermIn x mid D' L → SortedIn lt x mid L → Lft lt a b d (mid + 1) y L) ∧ (∀ L, PermIn (mid + 1) y D' L → SortedIn lt (mid + 1) y L → Lft lt a b d x mid L) := by
  obtain ⟨h1, h2, h3, h4, h5, h6, h7⟩ := Go.Sort.round_part hO (Go.Sort.partition_holds lt) hp1 hp2 h.top h.low he
  have ht := h.top
  refine ⟨h1, h2, by rw [h3]; exact ht, h4, h5, fun L hL hs => ?_, fun L hL hs => ?_⟩
  · obtain ⟨b1, b2⟩ := h6 L hL hs
    exact ⟨by omega, by rw [hL.1, h3]; exact ht, b1, fun R hR hs' => by obtain ⟨q1, q2⟩ := b2 R hR hs'; exact h.fin R q1 q2⟩
  · obtain ⟨b1, b2⟩ := h7 L hL hs
    exact ⟨h1, by rw [hL.1, h3]; omega, b1, fun R hR hs' => by obtain ⟨q1, q2⟩ := b2 R hR hs'; exact h.fin R q1 q2⟩
end
end Go.Proofs.Ytjiiploleinobaa
