/- An argument of the type of rows of names, as the row's frame hands it over. No condition. -/
import Derived.Test.YtjiiploleinobaaOidFr
import Derived.Test.YtjiiploleinobaaSrtR
import Derived.Deep.Slices
import Derived.OpenShut
namespace Go.Proofs.Ytjiiploleinobaa
open Go.RowKit Go.ChangeShapes Go.WideShapes
set_option maxRecDepth 100000
set_option maxHeartbeats 4000000
set_option linter.unusedVariables false
theorem id_of_trod {H : Type} {enc : TypeId × Value → H} {W : World} {base : Nat} {sp : Nat → Bool} {held : Bool} {fuel : Nat} {T : TypeId} (hT : Try.prog.underlying T = some (.array 20 5)) (hs : (Try.prog.info? T).map (·.size) = some 20) {cs : List Value} {x : DataW H × List MemPlace}
    (hlen : cs.length = 20) (hf : DataW.trod enc Try.prog W base sp held fuel T cs = some x) : ∃ l : List UInt8, cs = bvs l ∧ l.length = 20 := by
  have hc1 : Try.prog.cellsOf 5 = 1 := by kernel_rfl
  have hcT : Try.prog.cellsOf T = 20 := by
    unfold Program.cellsOf
    cases hq : Try.prog.info? T with
    | none => simp [hq] at hs
    | some i => simpa [hq] using hs
  cases fuel with
  | zero => simp [DataW.trod] at hf
  | succ m =>
    rw [DataW.trod_step] at hf
    unfold DataW.trodStep at hf
    simp only [hT] at hf
    rw [if_pos (by rw [hcT]; exact hlen)] at hf
    simp only [Option.map_eq_some_iff] at hf
    obtain ⟨ys, hy, e1⟩ := hf
    have hall := cells_of_mapM Try.underlying5 _ ys hy
    rw [hc1] at hall
    refine ⟨cs.map fun v => match v with | .int _ a => UInt8.ofNat a.toNat | _ => 0, ?_, by simpa using hlen⟩
    apply List.ext_getElem
    · simp
    intro i h1 h3
    obtain ⟨a, ha, wa⟩ := hall i (by simp; omega)
    have hg : cs[i] = .int .u8 a := by
      have : (cs.drop (i * 1)).take 1 = [cs[i]] := by
        rw [Nat.mul_one, List.drop_eq_getElem_cons h1]; rfl
      rw [this] at ha
      simpa using ha
    have hb := bounds_u8 wa
    simp only [bvs, List.getElem_map, bv]
    rw [hg]
    simp
    omega
theorem ids_of_trod {H : Type} {enc : TypeId × Value → H} {w : World} {base : Nat} {held : Bool} {fuel : Nat} {A : Option Addr} {n c : Nat} {x : DataW H × List MemPlace}
    (h : DataW.trod enc Try.prog w base (fun _ => true) held fuel 36 [.slice A n c] = some x) : ∃ l : List (List UInt8), n = l.length ∧ l.length ≤ c ∧ c ≤ maxLen ∧ All20 l ∧ Sl w A (idc l) ∧ (A = none → c = 0) := by
  rcases Go.Deep.open_slice Try.underlying36 h with ⟨hcs, _⟩ | ⟨a, len, cap, m, k, D, Pl, hcs, hb, hl, hm, hmm, _, hx⟩
  · simp at hcs
    obtain ⟨rfl, rfl, rfl⟩ := hcs
    exact ⟨[], rfl, by simp, by simp, fun x hx => by simp at hx, Sl.nil _ _, fun _ => rfl⟩
  · simp at hcs
    obtain ⟨rfl, rfl, rfl⟩ := hcs
    simp only [if_true] at hmm
    have ce : Try.prog.cellsOf 23 = 20 := by kernel_rfl
    have each : ∀ i, i < n → ∃ y : List UInt8, y.length = 20 ∧ Sl w (some (a.add (i * 20))) (bvs y) := by
      intro i hi
      obtain ⟨cs', h1, h2⟩ := hx i (by omega)
      rw [ce] at h1
      obtain ⟨_, hlen, hcell⟩ := World.cells?_some h1
      obtain ⟨y, e, hy⟩ := id_of_trod Try.underlying23 (by kernel_rfl) hlen h2
      refine ⟨y, hy, fun j v hj => ⟨_, rfl, ?_⟩⟩
      have hj20 : j < 20 := by
        have := (List.getElem?_eq_some_iff.1 hj).1
        rw [bvs_length, hy] at this
        exact this
      rw [hcell j hj20, e]
      exact hj
    obtain ⟨V, hV⟩ := Go.Deep.choose_lt each
    have h20 : All20 ((List.range n).map V) := fun x hx => by
      obtain ⟨i, hi, rfl⟩ := List.mem_map.1 hx
      exact (hV i (by simpa using hi)).1
    refine ⟨(List.range n).map V, by simp, by simpa using hl, hm, h20, fun j v hj => ?_, fun e => by cases e⟩
    have hlt := (List.getElem?_eq_some_iff.1 hj).1
    rw [idc_len _ h20] at hlt
    simp at hlt
    have hi : j / 20 < n := by omega
    have e : j / 20 * 20 + j % 20 = j := by omega
    rw [← e, idc_at _ h20 (j / 20) (j % 20) (by simpa using hi) (by omega)] at hj
    have eV : ((List.range n).map V).getD (j / 20) [] = V (j / 20) := by
      rw [List.getD_eq_getElem?_getD]
      simp [hi]
    rw [eV] at hj
    obtain ⟨ad, e2, hc⟩ := (hV (j / 20) hi).2 (j % 20) v hj
    injection e2 with e2
    subst e2
    rw [Addr.add_add, e] at hc
    exact ⟨_, rfl, hc⟩
end Go.Proofs.Ytjiiploleinobaa
