/- ObjectEdges: a tree leads to its entries but links, each once; a commit to its tree and parents. -/
import Derived.Test.YtcedfapcpmedfaaGreatDoorRows
import Derived.WalkKit
import Derived.ProofKit
import Derived.OpenShut
import Derived.ShutString
import Derived.ChangeOld
import Derived.Below
import Derived.Deep.Matrix
import Derived.Test.YtcedfapcpmedfaaGreatDoorKk
import Derived.Test.YtcedfapcpmedfaaGreatDoorCards
import Derived.Test.YtcedfapcpmedfaaGreatDoorTie
import Derived.LaidMore
import Derived.Lay
import Derived.SevenTiedAt
import Derived.Test.YtcedfapcpmedfaaGreatDoorQObjectEdges
import Derived.Test.YtcedfapcpmedfaaGreatDoorKl
namespace Go.Proofs.YtcedfapcpmedfaaGreatDoor.objectEdges
open Go.ChangeShapes Go.WideShapes Go.ChangeAt Go.RowKit Go.Deep
open Go.ChangeMaps (open_string shut_string)
set_option linter.unusedVariables false
theorem own : ownKnob Tryz.prog.godebug = none := by kernel_rfl
theorem laidOut : laidOutB Tryz.prog = true := by kernel_rfl
set_option maxRecDepth 100000 in
theorem lifted (os : Os) (started : os.Started) (H : Type) (enc : TypeId × Value → H) :
    ReturnsInHanded {} Tryz.checked os 9 .any (fun w args => (Rows.objectEdgesSpec.pre enc Tryz.prog Tryz.f9 Rows.objectEdgesRow.domain false w args ∧ laidMetH Tryz.prog Rows.objectEdgesRow.laid w) ∧ sizedMet enc Tryz.prog Tryz.f9 (OpenSpec.ofChange Rows.objectEdgesSpec) false w args) (Rows.objectEdgesSpec.post enc Tryz.prog Tryz.f9 false true false false) := by
  refine returns_shaped_and (C := Tryz.checked) (X := (fun w _ => laidMetH Tryz.prog Rows.objectEdgesRow.laid w)) (fun _ _ _ hh h => h.of_heap hh) own started (by kernel_rfl) Tryz.func9
    (ChangeSpec.witness_shaped (enc := enc) (C := Tryz.checked) (os := os) (X := (fun w _ => laidMetH Tryz.prog Rows.objectEdgesRow.laid w)) false (World.laidAll Tryz.prog os Rows.objectEdgesRow.laid) #[.slice none 0 0, .slice none 0 0] 8 (World.laidAll_os _ _ _)
      (World.shaped_of_ZipB (by kernel_rfl) (by kernel_rfl)) (by kernel_rfl) (by kernel_rfl) (by kernel_rfl)
      (by rw [MakeChecks.laidMetH_plain _ _ _ (by kernel_rfl)]; exact laidMet_laidAll _ (by kernel_rfl) (by kernel_rfl))) ?_
  intro W base args ds gs before hval0 hW hlaid hshape
  have hgok := gb_of (l := Rows.objectEdgesRow.laid) hshape (by kernel_rfl) (.tail _ (.tail _ (.head _))) hlaid
  have hgz := gz_of (l := Rows.objectEdgesRow.laid) (by kernel_rfl) (.tail _ (.head _)) hlaid
  have hval : ∀ (j : Nat) t v, Tryz.f9.params[j]? = some t → args[j]? = some v → Value.okWide Tryz.prog W .any base t v := hval0
  have hW' := hW
  obtain ⟨p, q, hA0, hV, rfl, hfz, hnd⟩ := hW
  have hA : DataW.TrodAll enc Tryz.prog W 0 (fun _ => true) true Tryz.f9.params.toList args.toList ds p := hA0
  rw [Tryz.params9] at hA hval
  obtain ⟨v0, vs0, d0, ds0, p0, q0, hargs, rfl, rfl, h0, r0⟩ := trodAll_cons hA
  obtain ⟨v1, vs1, d1, ds1, p1, q1, rfl, rfl, rfl, h1, r1⟩ := trodAll_cons r0
  obtain ⟨rfl, rfl, rfl⟩ := trodAll_nil r1
  obtain rfl : args = #[v0, v1] := by cases args; simp_all
  obtain ⟨rfl, rfl⟩ := trodVars_none hV
  obtain ⟨a0, n0, c0, rfl⟩ := okWide_slice Tryz.underlying43 (hval 0 43 v0 rfl rfl)
  have k0 := h0
  have lt0 : ∀ x ∈ p0, x.block < W.heap.size := by obtain ⟨m, hm⟩ := k0; exact DataW.trod_lt m _ _ _ hm
  obtain ⟨l0, rfl, g0, m0, t0, b0, z0⟩ : ∃ l : List (List UInt8), n0 = l.length ∧ l.length ≤ c0 ∧ c0 ≤ maxLen ∧ All20 l ∧ Sl W a0 (idc l) ∧ (a0 = none → c0 = 0) := by
    obtain ⟨fuel, hf⟩ := h0
    simp [Value.cells] at hf
    exact ids_of_trod hf
  obtain ⟨a1, n1, c1, rfl⟩ := okWide_slice Tryz.underlying97 (hval 1 97 v1 rfl rfl)
  have k1 := h1
  have lt1 : ∀ x ∈ p1, x.block < W.heap.size := by obtain ⟨m, hm⟩ := k1; exact DataW.trod_lt m _ _ _ hm
  obtain ⟨l1, rfl, g1, m1, b1⟩ : ∃ l : List Bool, n1 = l.length ∧ l.length ≤ c1 ∧ c1 ≤ maxLen ∧ Sl W a1 (l.map Value.bool) := by
    obtain ⟨fuel, hf⟩ := h1
    simp [Value.cells] at hf
    exact bools_of_trod hf
  clear hA0 hval0
  refine (edges_all l0 t0 l1 a0 c0 a1 c1 W hgok hgz b0 b1).mono fun e W' ⟨he, bel⟩ => ?_
  subst he
  exact ⟨_, rfl, _, _, _, [], _, [], hW', trodAll_mk1 (shut_bool Tryz.underlying4 _), (trodAll_cons_mk (Below.trod laidOut (by kernel_rfl) (of_decide_eq_true (by kernel_rfl)) k0 bel lt0) (trodAll_cons_mk (Below.trod laidOut (by kernel_rfl) (of_decide_eq_true (by kernel_rfl)) k1 bel lt1) trodAll_mk0)), rfl, bel.frame _, fun h => by cases h⟩
theorem over : Rows.objectEdgesRow.holds Tryz.pinned (OpenSpec.ofChange Rows.objectEdgesSpec) :=
  OpenClaim.holds_of_wide 9 Tryz.f9 rfl rfl rfl rfl rfl rfl rfl ⟨rfl, rfl, rfl, rfl, rfl⟩ rfl rfl rfl rfl rfl (by kernel_rfl) Tryz.func9 (by kernel_rfl)
    (of_decide_eq_true (by kernel_rfl)) (by unfold Func.isWrapper; first | (rw [if_pos (by decide +kernel)]; kernel_rfl) | (rw [if_neg (by decide +kernel)]; exact ⟨rfl, rfl⟩))
    (fun os started H enc _ => lifted os started H enc)
theorem proved : Rows.ObjectEdgesCardSaid :=
  Claim7.holds_tied_plain_at .later [] [.data, .data, .data, .data, .pinned] true (true, "2cde4a0a0e4a715ae9e542208d818dfa4d30e2a1aed9851457fe33f0214743ed") false over (fun _ h => by cases h) (by kernel_rfl) (fun _ h => by cases h) objectEdges_row_tie rfl ⟨rfl, rfl⟩ (by kernel_rfl) rfl
    (fun f fn hf hfn => by
      obtain rfl : f = 9 := Option.some.inj ((show Tryz.prog.funcNamed "trove/trovelaw12.ObjectEdges" = some 9 by kernel_rfl).symm.trans hf) |>.symm
      obtain rfl : fn = Tryz.f9 := (Option.some.inj (Tryz.func9.symm.trans hfn)).symm
      exact ⟨by kernel_rfl, fun j t ht => by
        rw [Tryz.params9] at ht
        have hm : t ∈ [43, 97] := by simpa using Array.mem_of_getElem? ht
        have hall : ([43, 97].all fun u => !Tryz.prog.wantsStandIn u) = true := by kernel_rfl
        exact (show Tryz.prog.wantsStandIn t = false by simpa using List.all_eq_true.1 hall t hm)⟩)
    (by kernel_rfl)
end Go.Proofs.YtcedfapcpmedfaaGreatDoor.objectEdges
