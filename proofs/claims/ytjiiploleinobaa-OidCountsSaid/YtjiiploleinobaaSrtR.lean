/- slices.Clone of a row of names; oid.Sort. Conditions: fewer than 256 names, each of twenty bytes. -/
import Derived.Test.YtjiiploleinobaaSrtQ
namespace Go.Proofs.Ytjiiploleinobaa
open Go.RowKit
open Go.Sort (PermIn SortedIn ltStr swo_ltStr)
set_option maxRecDepth 100000
set_option maxHeartbeats 4000000
set_option linter.unusedVariables false
/-- the cells of a row of names -/
def idc (l : List (List UInt8)) : List Value := l.flatMap bvs
abbrev All20 (l : List (List UInt8)) : Prop := ∀ x ∈ l, x.length = 20
theorem idc_len : ∀ l : List (List UInt8), All20 l → (idc l).length = l.length * 20
  | [], _ => rfl
  | x :: l, h => by
    have ih := idc_len l (fun y hy => h y (by simp [hy]))
    have hx := h x (by simp)
    unfold idc at *
    rw [List.flatMap_cons, List.length_append, ih, bvs_length, hx, List.length_cons]; omega
theorem idc_at : ∀ (l : List (List UInt8)) (_ : All20 l) (i j : Nat), i < l.length → j < 20 → (idc l)[i * 20 + j]? = (bvs (l.getD i []))[j]?
  | [], _, i, _, h, _ => by simp at h
  | x :: l, ha, i, j, h, hj => by
    have hx : (bvs x).length = 20 := by rw [bvs_length]; exact ha x (by simp)
    have ih := idc_at l (fun y hy => ha y (by simp [hy]))
    unfold idc at *
    rw [List.flatMap_cons]
    cases i with
    | zero => rw [List.getElem?_append_left (by omega), Nat.zero_mul, Nat.zero_add]; rfl
    | succ i =>
      rw [List.getElem?_append_right (by omega), hx, show (i + 1) * 20 + j - 20 = i * 20 + j by omega, ih i j (by simpa using h) hj]
      rfl
theorem idc_one (l : List (List UInt8)) : ∀ u ∈ idc l, u.oneCell' = true := fun u hu => by
  obtain ⟨x, _, hx⟩ := List.mem_flatMap.1 hu
  exact bvs_one x u hx
theorem clone_any (n : Nat) (hn : n < 256) (A : Addr) (c : Nat) (xs : List Value) (w : World) (hl : xs.length = n * 20) (h1 : ∀ u ∈ xs, u.oneCell' = true) (hA : Sl w (some A) xs) :
    Calls Try.prog 30 #[.slice (some A) n c] w fun e w' => ∃ v, e = .returned v ∧ w'.ownsRow w.heap.size 23 20 v n xs ∧ Below w.heap.size w w' := by
  have hnil := Lib.run_eql_slice_nil (P := Try.prog) (t := 36) (e := 23) (a := some A) (n := n) (c := c) (n' := 0) (c' := 0) (h := Try.underlying36)
  have hbE : Below w.heap.size w (w.alloc (.cells #[] 23)) := (Below.refl _ _).alloc (Nat.le_refl _) _
  have hE : (w.alloc (.cells #[] 23)).ownsRow w.heap.size 23 20 (.slice (some ⟨w.heap.size, 0, none⟩) 0 0) 0 [] := World.ownsRow_lit w #[] 0 (Nat.le_refl _) (by unfold maxLen; omega) rfl
  have HE := Lib.hid hE; have HA := Lib.hid hA; have HL := Lib.hid hl
  clear hE hA hl
  go_enter Try.func30, Try.ntmps30
  go_wp2_with (at_builtin
               refine wpList_app rfl (.tmp 5) (.tmp 6) 36 rfl w.heap.size 23 (idv zs20) 20 20 Try.underlying36 Try.info23 (by show (bvs zs20).toArray.size = 20; simp [zs20_len]) (by decide) _ 0 [] rfl HE.out (some A) n c xs rfl HL.out (Sl.below HA.out hbE) h1 (by omega) (by unfold maxLen; omega) (by simp) ?_
               intro v2 w2 hw2 hg2)
  go_ret
  refine ⟨v2, rfl, by simpa using hw2, Below.app hbE HE.out hg2 (by simp)⟩
theorem clone_nil (w : World) : Calls Try.prog 30 #[.slice none 0 0] w fun e w' => e = .returned (.slice none 0 0) ∧ w = w' := by
  have hnil := Lib.run_eql_slice_nil (P := Try.prog) (t := 36) (e := 23) (a := none) (n := 0) (c := 0) (n' := 0) (c' := 0) (h := Try.underlying36)
  go_enter Try.func30, Try.ntmps30
  go_wp2
  go_ret
  exact ⟨rfl, rfl⟩
theorem sort_tiny (A : Option Addr) (n c : Nat) (h : n ≤ 1) (w : World) : Calls Try.prog 31 #[.iface 64 (.slice A n c)] w fun e w' => e = .returned (.tuple #[]) ∧ w = w' := by
  have kl := len80 A n c w
  have mS : ∀ (w : World), (method 213 64 (.slice A n c) "Len").run Try.prog w = .ok (80, .slice A n c) w := fun w => by kernel_rfl
  have cS : ∀ (w : World), (callFunc 80 #[.slice A n c]).run Try.prog w = .ok (.enter 80 #[.slice A n c]) w := fun w => by kernel_rfl
  have z1 : (n : Int) ≤ 1 := by omega
  go_enter Try.func31, Try.ntmps31
  go_wp2_with (go_at_call 80; (with_reducible refine kl.mono ?_); rintro e w1 ⟨rfl, rfl⟩)
  (try simp only [Exit.inBlock, Exit.then])
  refine bodyPost_ret (results_none rfl _ _ _) rfl ?_
  exact ⟨rfl, rfl⟩
theorem la_get (l : List (List UInt8)) (i : Nat) : l.toArray[i]! = l.getD i [] := by rw [← td]
theorem ids_of_own {w : World} {B : Nat} {v : Value} {l : List (List UInt8)} (h20 : All20 l) (h : w.ownsRow B 23 20 v l.length (idc l)) (hp : 0 < l.length) :
    ∃ g cap, v = .slice (some ⟨g, 0, none⟩) l.length cap ∧ B ≤ g ∧ l.length ≤ cap ∧ Ids g w l.toArray := by
  obtain ⟨hl, h⟩ := h
  rcases h with ⟨_, h0⟩ | ⟨g, cap, cur, rfl, hB, hg, hc, hm, hsz, ht⟩
  · omega
  · refine ⟨g, cap, rfl, hB, hc, fun i hi j v hj => ?_, fun j hj => ?_, fun i hi => ?_, (Array.getElem?_eq_some_iff.1 hg).1⟩
    · have hi' : i < l.length := by simpa using hi
      rw [la_get] at hj
      have hj20 : j < 20 := by
        have := (List.getElem?_eq_some_iff.1 hj).1
        rw [bvs_length] at this
        have h2 := h20 (l.getD i []) (by rw [List.getD_eq_getElem?_getD, List.getElem?_eq_getElem hi']; exact List.getElem_mem hi')
        omega
      rw [← idc_at l h20 i j hi' hj20, ← ht, List.getElem?_take] at hj
      split at hj
      · simp only [World.cell?, hg]
        simpa using hj
      · cases hj
    · have hj' : j < cur.size := by
        have : j < l.length * 20 := by simpa using hj
        rw [hsz]
        have := Nat.mul_le_mul_right 20 hc
        omega
      refine ⟨?_, ?_⟩
      · simp [World.cell?, hg, hj']
      · simp [World.frozen?, hg]
    · rw [la_get]
      have hi' : i < l.length := by simpa using hi
      exact h20 _ (by rw [List.getD_eq_getElem?_getD, List.getElem?_eq_getElem hi']; exact List.getElem_mem hi')
theorem ids_sl {g : Nat} {w : World} {L : List (List UInt8)} (h : Ids g w L.toArray) (h20 : All20 L) : Sl w (some ⟨g, 0, none⟩) (idc L) := fun j v hj => by
  have hlt := (List.getElem?_eq_some_iff.1 hj).1
  rw [idc_len L h20] at hlt
  have hi : j / 20 < L.length := by omega
  have e : j / 20 * 20 + j % 20 = j := by omega
  rw [← e, idc_at L h20 (j / 20) (j % 20) hi (by omega), ← la_get] at hj
  refine ⟨_, rfl, ?_⟩
  rw [add_plain, Nat.zero_add]
  have := h.at_ (j / 20) (by simpa using hi) (j % 20) v hj
  rwa [e] at this
end Go.Proofs.Ytjiiploleinobaa
