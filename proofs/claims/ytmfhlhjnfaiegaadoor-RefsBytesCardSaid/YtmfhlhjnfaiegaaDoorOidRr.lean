/- An argument of the type of rows of refs, as the row's frame hands it over. No condition. -/
import Derived.Test.YtmfhlhjnfaiegaaDoorOidFr
import Derived.Test.YtmfhlhjnfaiegaaDoorRefR
import Derived.Deep.Slices
import Derived.OpenShut
namespace Go.Proofs.YtmfhlhjnfaiegaaDoor
open Go.RowKit Go.ChangeShapes Go.WideShapes
set_option maxRecDepth 100000
set_option maxHeartbeats 4000000
set_option linter.unusedVariables false
theorem id_of_trod {H : Type} {enc : TypeId × Value → H} {W : World} {base : Nat} {sp : Nat → Bool} {held : Bool} {fuel : Nat} {T : TypeId} (hT : Tryd.prog.underlying T = some (.array 20 5)) (hs : (Tryd.prog.info? T).map (·.size) = some 20) {cs : List Value} {x : DataW H × List MemPlace}
    (hlen : cs.length = 20) (hf : DataW.trod enc Tryd.prog W base sp held fuel T cs = some x) : ∃ l : List UInt8, cs = bvs l ∧ l.length = 20 := by
  have hc1 : Tryd.prog.cellsOf 5 = 1 := by kernel_rfl
  have hcT : Tryd.prog.cellsOf T = 20 := by
    unfold Program.cellsOf
    cases hq : Tryd.prog.info? T with
    | none => simp [hq] at hs
    | some i => simpa [hq] using hs
  cases fuel with
  | zero => simp [DataW.trod] at hf
  | succ m =>
    rw [DataW.trod_step] at hf
    unfold DataW.trodStep at hf
    simp only [hT] at hf
    rw [if_pos (by rw [hcT]; exact hlen)] at hf
    simp only [Option.map_eq_some_iff] at hf
    obtain ⟨ys, hy, e1⟩ := hf
    have hall := cells_of_mapM Tryd.underlying5 _ ys hy
    rw [hc1] at hall
    refine ⟨cs.map fun v => match v with | .int _ a => UInt8.ofNat a.toNat | _ => 0, ?_, by simpa using hlen⟩
    apply List.ext_getElem
    · simp
    intro i h1 h3
    obtain ⟨a, ha, wa⟩ := hall i (by simp; omega)
    have hg : cs[i] = .int .u8 a := by
      have : (cs.drop (i * 1)).take 1 = [cs[i]] := by
        rw [Nat.mul_one, List.drop_eq_getElem_cons h1]; rfl
      rw [this] at ha
      simpa using ha
    have hb := bounds_u8 wa
    simp only [bvs, List.getElem_map, bv]
    rw [hg]
    simp
    omega
theorem ref_of_trod {H : Type} {enc : TypeId × Value → H} {W : World} {base : Nat} {sp : Nat → Bool} {held : Bool} {fuel : Nat} {cs : List Value} {x : DataW H × List MemPlace}
    (hlen : cs.length = 21) (hf : DataW.trod enc Tryd.prog W base sp held fuel 47 cs = some x) : ∃ r : Rf, cs = rcell r ∧ r.2.length = 20 := by
  have c9 : Tryd.prog.cellsOf 9 = 1 := by kernel_rfl
  have cI : Tryd.prog.cellsOf 41 = 20 := by kernel_rfl
  obtain ⟨y0, y1, m, _, _, h0, h1⟩ := trod_struct2 Tryd.underlying47 hf
  simp only at h0 h1
  rw [c9, List.drop_zero] at h0
  rw [cI] at h1
  obtain ⟨s, e0, _, _⟩ := DataW.trod_string Tryd.underlying9 h0
  obtain ⟨l, e1, hl⟩ := id_of_trod Tryd.underlying41 (by kernel_rfl) (by rw [List.length_take, List.length_drop, hlen]; rfl) h1
  have ht : cs = cs.take 1 ++ (cs.drop 1).take 20 := by
    rw [List.take_of_length_le (l := cs.drop 1) (by rw [List.length_drop, hlen]; decide), List.take_append_drop]
  refine ⟨(s.data.toList, l), ?_, hl⟩
  rw [ht, e0, e1]
  show _ = Value.string ⟨s.data.toList.toArray⟩ :: bvs l
  simp
theorem refs_of_trod {H : Type} {enc : TypeId × Value → H} {w : World} {base : Nat} {held : Bool} {fuel : Nat} {A : Option Addr} {n c : Nat} {x : DataW H × List MemPlace}
    (h : DataW.trod enc Tryd.prog w base (fun _ => true) held fuel 22 [.slice A n c] = some x) : ∃ l : List Rf, n = l.length ∧ l.length ≤ c ∧ c ≤ maxLen ∧ Rf20 l ∧ Sl w A (rfc l) := by
  rcases Go.Deep.open_slice Tryd.underlying22 h with ⟨hcs, _⟩ | ⟨a, len, cap, m, k, D, Pl, hcs, hb, hl, hm, hmm, _, hx⟩
  · simp at hcs
    obtain ⟨rfl, rfl, rfl⟩ := hcs
    exact ⟨[], rfl, by simp, by simp, fun x hx => by simp at hx, Sl.nil _ _⟩
  · simp at hcs
    obtain ⟨rfl, rfl, rfl⟩ := hcs
    simp only [if_true] at hmm
    have ce : Tryd.prog.cellsOf 47 = 21 := by kernel_rfl
    have each : ∀ i, i < n → ∃ y : Rf, y.2.length = 20 ∧ Sl w (some (a.add (i * 21))) (rcell y) := by
      intro i hi
      obtain ⟨cs', h1, h2⟩ := hx i (by omega)
      rw [ce] at h1
      obtain ⟨_, hlen, hcell⟩ := World.cells?_some h1
      obtain ⟨y, e, hy⟩ := ref_of_trod hlen h2
      refine ⟨y, hy, fun j v hj => ⟨_, rfl, ?_⟩⟩
      have hj20 : j < 21 := by
        have := (List.getElem?_eq_some_iff.1 hj).1
        rw [rcell_len hy] at this
        exact this
      rw [hcell j hj20, e]
      exact hj
    obtain ⟨V, hV⟩ := Go.Deep.choose_lt each
    have h20 : Rf20 ((List.range n).map V) := fun x hx => by
      obtain ⟨i, hi, rfl⟩ := List.mem_map.1 hx
      exact (hV i (by simpa using hi)).1
    refine ⟨(List.range n).map V, by simp, by simpa using hl, hm, h20, fun j v hj => ?_⟩
    have hlt := (List.getElem?_eq_some_iff.1 hj).1
    rw [rfc_len h20] at hlt
    simp at hlt
    have hi : j / 21 < n := by omega
    have e : j / 21 * 21 + j % 21 = j := by omega
    rw [← e, rfc_at h20 (j / 21) (j % 21) (by simpa using hi) (by omega)] at hj
    have eV : gtR ((List.range n).map V) (j / 21) = V (j / 21) := by
      unfold gtR
      rw [List.getD_eq_getElem?_getD]
      simp [hi]
    rw [eV] at hj
    obtain ⟨ad, e2, hc⟩ := (hV (j / 21) hi).2 (j % 21) v hj
    injection e2 with e2
    subst e2
    rw [Addr.add_add, e] at hc
    exact ⟨_, rfl, hc⟩
end Go.Proofs.YtmfhlhjnfaiegaaDoor
