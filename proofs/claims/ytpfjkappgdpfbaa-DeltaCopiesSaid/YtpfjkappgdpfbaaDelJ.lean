/- delta.Make makes a delta that tells the target, and how long it is at most. Condition: base and target have at most 262144 bytes. -/
import Derived.Test.YtpfjkappgdpfbaaDelI
import Derived.Test.YtpfjkappgdpfbaaDelE
namespace Go.Proofs.Ytpfjkappgdpfbaa
open Go.RowKit
open Go.ChangeMaps Go.MapKept Go.ChangeShapes Go.Maps
set_option maxRecDepth 100000
set_option maxHeartbeats 8000000
theorem Mk.start {B B' mbk : Nat} {w3 : World} {vb v3 : Value} {x : List UInt8} (h3 : WinB w3 B' 5 v3 x) (hBB : B ≤ B') (hk : mbk < B') :
    Mk B w3.heap.size (fun g => g = mbk) vb (.map (some mbk)) x [] (w3.alloc (.cells #[vb, .map (some mbk), v3, .slice none 0 0] 86)) := by
  refine ⟨v3, .slice none 0 0, heap_alloc_new _ _, Win.base (Win.below h3 ((Below.refl _ _).alloc (Nat.le_refl _) _)) hBB, Win.nil _ _ _ _, fun e => ?_, fun e => (by cases e), fun g _ e => (by cases e), fun g hg e => ?_, fun g hg => (by cases hg)⟩
  · have := (Win.block h3 _ e).2
    omega
  · have := (Win.block h3 g hg).1
    omega
/-- other bytes wait -/
theorem Mk.set {B mb : Nat} {F : Nat → Prop} {vb vm v' : Value} {x y y' : List UInt8} {w w2 : World} (hmb : B ≤ mb) (hFm : ¬ F mb) (hF : ∀ g, F g → g < w.heap.size) (hB : B ≤ w.heap.size) (h : Mk B mb F vb vm x y w) (hb : Below w.heap.size w w2) (hw : WinB w2 w.heap.size 5 v' y') :
    w2.frozen? ⟨mb, 3, none⟩ = false ∧ (∃ u, w2.cell? ⟨mb, 3, none⟩ = some u) ∧ Mk B mb F vb vm x y' (w2.setCell ⟨mb, 3, none⟩ v') ∧ Kq B F w (w2.setCell ⟨mb, 3, none⟩ v') := by
  obtain ⟨vo, vw, h1, h2, h3, h4, h5, h6, h7, h8⟩ := h
  have hml : mb < w.heap.size := (Array.getElem?_eq_some_iff.1 h1).1
  have r2 : w2.heap[mb]? = some (.cells #[vb, vm, vo, vw] 86 (0, 0)) := (hb.block mb hml).trans h1
  have hn : ¬ v'.ownBlock = some mb := fun e => by
    have := (Win.block hw _ e).1
    omega
  refine ⟨frozen_of_row _ _ _ _ _ r2, ⟨vw, by rw [cell_of_row _ _ _ _ _ _ r2]; rfl⟩, ⟨vo, v', ?_, WinB.setNe (Win.below h2 hb) h4, WinB.setNe (Win.base hw hB) hn, h4, hn, ?_, h7, ?_⟩, (Kp.ofBelow hb).setCell (p := ⟨mb, 3, none⟩) (Or.inl ⟨hmb, hFm⟩) _⟩
  · have := heap_setCell_same w2 mb 3 _ 86 v' r2
    simpa using this
  · intro g hg e
    have a1 := (Win.block h2 g hg).2
    have a2 := (Win.block hw g e).1
    omega
  · intro g hg e
    have a1 := hF g e
    have a2 := (Win.block hw g hg).1
    omega
/-- the maker behind learn -/
theorem Mk.learned {B mb mbk : Nat} {vb vm : Value} {x y : List UInt8} {w w2 : World} (hne : mb ≠ mbk) (h : Mk B mb (fun g => g = mbk) vb vm x y w) (hk : Kp (fun k => k = mbk) w w2) :
    Mk B mb (fun g => g = mbk ∨ (w.heap.size ≤ g ∧ g < w2.heap.size)) vb vm x y w2 := by
  obtain ⟨vo, vw, h1, h2, h3, h4, h5, h6, h7, h8⟩ := h
  have hml : mb < w.heap.size := (Array.getElem?_eq_some_iff.1 h1).1
  refine ⟨vo, vw, (hk.block mb hml hne).trans h1, Win.kp h2 hk (fun g hg => h7 g hg), Win.kp h3 hk (fun g hg => h8 g hg), h4, h5, h6, fun g hg e => ?_, fun g hg e => ?_⟩
  · rcases e with e | e
    · exact h7 g hg e
    · have := (Win.block h2 g hg).2
      omega
  · rcases e with e | e
    · exact h8 g hg e
    · have := (Win.block h3 g hg).2
      omega
/-- what stands in front of both -/
def mFront (base target : List UInt8) : Nat := if alike base target < 8 then 0 else alike base target
def mBack (base target : List UInt8) : Nat := if behind (base.drop (mFront base target)) (target.drop (mFront base target)) < 8 then 0 else behind (base.drop (mFront base target)) (target.drop (mFront base target))
theorem mFront_le (base target : List UInt8) : mFront base target ≤ base.length ∧ mFront base target ≤ target.length ∧ base.take (mFront base target) = target.take (mFront base target) := by
  unfold mFront
  have := alike_le base target
  split
  · simp
  · exact ⟨this.1, this.2, alike_take _ _⟩
theorem mBack_le (base target : List UInt8) : mFront base target + mBack base target ≤ base.length ∧ mFront base target + mBack base target ≤ target.length ∧ base.drop (base.length - mBack base target) = target.drop (target.length - mBack base target) := by
  obtain ⟨h1, h2, h3⟩ := mFront_le base target
  unfold mBack
  generalize mFront base target = f at h1 h2 h3 ⊢
  have hb := behind_le (base.drop f) (target.drop f)
  have hd := behind_drop (base.drop f) (target.drop f)
  simp only [List.length_drop, List.drop_drop] at hb hd
  split
  · simp; omega
  · refine ⟨by omega, by omega, ?_⟩
    rw [show f + (base.length - f - behind (base.drop f) (target.drop f)) = base.length - behind (base.drop f) (target.drop f) by omega, show f + (target.length - f - behind (base.drop f) (target.drop f)) = target.length - behind (base.drop f) (target.drop f) by omega] at hd
    exact hd
/-- how long the steps are at most -/
def mSize (base target : List UInt8) (ops : List DOp) : Prop := 65536 * (encs ops).length ≤ 8 * (mFront base target + 65535) + 131072 * (target.length - mBack base target - mFront base target) + 8 * (mBack base target + 65535)
theorem made_join {base target : List UInt8} (hb : base.length ≤ 262144) {mid : List DOp} (hg : Good base mid) (ht : text base mid = (target.drop (mFront base target)).take (target.length - mBack base target - mFront base target))
    (hl : (encs mid).length ≤ 2 * (target.length - mBack base target - mFront base target)) :
    MadeBy base target (cps 0 (mFront base target) ++ (mid ++ cps (base.length - mBack base target) (mBack base target))) ∧ mSize base target (cps 0 (mFront base target) ++ (mid ++ cps (base.length - mBack base target) (mBack base target))) := by
  obtain ⟨h1, h2, h3⟩ := mFront_le base target
  obtain ⟨k1, k2, k3⟩ := mBack_le base target
  unfold mSize
  generalize mFront base target = f at h1 h2 h3 k1 k2 k3 ht hl ⊢
  generalize mBack base target = b at k1 k2 k3 ht hl ⊢
  obtain ⟨c1, c2, c3⟩ := cps_spec base (by omega) f 0 f (Nat.le_refl _) (by omega)
  obtain ⟨d1, d2, d3⟩ := cps_spec base (by omega) b (base.length - b) b (Nat.le_refl _) (by omega)
  refine ⟨⟨c1.append (hg.append d1), ?_⟩, ?_⟩
  · rw [text_append, text_append, c2, d2, ht, List.drop_zero, h3, k3, List.take_of_length_le (l := target.drop (target.length - b)) (by simp; omega)]
    rw [← List.append_assoc]
    have e1 : target.take f ++ (target.drop f).take (target.length - b - f) = target.take (target.length - b) := by
      rw [← List.take_add, show f + (target.length - b - f) = target.length - b by omega]
    rw [e1, List.take_append_drop]
  · rw [encs_append, encs_append, List.length_append, List.length_append]
    omega
end Go.Proofs.Ytpfjkappgdpfbaa
