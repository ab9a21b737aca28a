/- Of: a row of names as the document's. Conditions: twenty bytes each, fewer than 256 names. -/
import Derived.Test.YtjiiploleinobaaRefB
namespace Go.Proofs.Ytjiiploleinobaa
open Go.RowKit
set_option maxRecDepth 100000
set_option maxHeartbeats 4000000
set_option linter.unusedVariables false
theorem Try.info22 : (Try.prog.info? 22).map (fun i => (i.zero, i.size, i.bytes)) = some (some (idv zs20), 20, 20) := by kernel_rfl
theorem fold_set : ∀ (xs : List Value) (k : Nat) (cs : Array Value), cs.size = k + xs.length → List.foldl (fun cs x => cs.setIfInBounds x.snd x.fst) cs (xs.zipIdx k) = (cs.toList.take k ++ xs).toArray
  | [], k, cs, h => by
    have : cs.toList.take k = cs.toList := List.take_of_length_le (by simp at h; simp; omega)
    simp [this]
  | x :: xs, k, cs, h => by
    rw [List.zipIdx_cons, List.foldl_cons, fold_set xs (k + 1) (cs.setIfInBounds k x) (by simp at h ⊢; omega)]
    have hk : k < cs.toList.length := by simp at h; simp; omega
    congr 1
    simp only [Array.toList_setIfInBounds]
    rw [List.take_succ_eq_append_getElem (by simpa using hk)]
    simp [List.getElem_set_self, List.take_set_of_le]
theorem fold_lit (x : List UInt8) (hx : x.length = 20) : List.foldl (fun cs x => cs.setIfInBounds x.snd x.fst) (bvs zs20).toArray (bvs x).zipIdx = (bvs x).toArray := by
  have := fold_set (bvs x) 0 (bvs zs20).toArray (by simp [hx, zs20_len])
  simpa using this
theorem idc_snoc (l : List (List UInt8)) (i : Nat) (hi : i < l.length) : idc (l.take (i + 1)) = idc (l.take i) ++ bvs (l.getD i []) := by
  rw [List.take_succ_eq_append_getElem hi]
  unfold idc
  rw [List.flatMap_append]
  have : l.getD i [] = l[i] := by rw [List.getD_eq_getElem?_getD, List.getElem?_eq_getElem hi]; rfl
  rw [this]
  simp
theorem of_any (l : List (List UInt8)) (h20 : All20 l) (hn : l.length < 256) (A : Option Addr) (c : Nat) (w : World) (hA : Sl w A (idc l)) :
    Calls Try.prog 16 #[.slice A l.length c] w fun e w' => ∃ v, e = .returned v ∧ w'.ownsRow w.heap.size 22 20 v l.length (idc l) ∧ Below w.heap.size w w' := by
  obtain ⟨n, hnn⟩ : ∃ n, n = l.length := ⟨_, rfl⟩
  rw [← hnn]
  have hn2 : n < 256 := by rw [hnn]; exact hn
  have H20 := Lib.hid h20; have HN := Lib.hid hnn; have HA := Lib.hid hA
  have own0 : w.ownsRow w.heap.size 22 20 (.slice none 0 0) 0 (idc (l.take 0)) := ⟨by simp [idc], .inl ⟨rfl, rfl⟩⟩
  clear h20 hnn hA hn
  go_enter Try.func16, Try.ntmps16
  go_wp2
  go_loopw [3, 4] (fun t3 t4 wr => ∃ i : Nat, t4 = .int .i64 (i : Int) ∧ i ≤ n ∧ wr.ownsRow w.heap.size 22 20 t3 i (idc (l.take i)) ∧ Below w.heap.size w wr) (fun _ t4 _ => (n - intOf t4).toNat)
  case atStart => exact ⟨0, rfl, by omega, own0, Below.refl _ _⟩
  case round =>
    clear own0
    obtain ⟨i, rfl, hi, hown, hbw⟩ := hrel
    by_cases hin : i < n
    · have hil : i < l.length := by rw [← HN.out]; exact hin
      obtain ⟨ad, rfl⟩ : ∃ ad, A = some ad := by
        cases A with
        | some ad => exact ⟨ad, rfl⟩
        | none =>
          have := sl_none HA.out H20.out
          rw [this] at hil
          simp at hil
      have hr := (sl_row HA.out H20.out i hil).below hbw
      obtain ⟨x, hx⟩ : ∃ x, x = l.getD i [] := ⟨_, rfl⟩
      have hx20 := get20 H20.out i hil
      rw [← hx] at hr hx20
      have lx := load_id x hx20 _ _ hr
      have HX := Lib.hid hx; have HX20 := Lib.hid hx20; have LX := Lib.hid lx; have OW := Lib.hid hown
      clear hx hx20 hr lx hown
      have fl := fold_lit x HX20.out
      rw [← zlit] at fl
      have hba : Below wr.heap.size wr (wr.alloc (.cells (bvs x).toArray 22)) := (Below.refl _ _).alloc (Nat.le_refl _) _
      have ow2 := Lib.hid (ownsRow_below OW.out hba)
      have sx := Lib.hid (Sl.of_block (off := 0) (heap_alloc_new wr (.cells (bvs x).toArray 22)) (l := bvs x) (fun j v hj => by simpa using hj))
      have hbw2 := Lib.hid (hbw.trans (hba.mono hbw.size))
      have h1 := hbw.size
      have hxl := HX20.out
      clear hbw OW
      go_wp2_with (first
        | (refine wpList_loadG 23 (.tmp 14) rfl (ad.add (i * 20)) rfl (idv x) LX.out rfl ?_)
        | (at_builtin
           refine wpList_app rfl (.tmp 11) (.tmp 16) 38 rfl w.heap.size 22 (idv zs20) 20 20 Try.underlying38 Try.info22 (by show (bvs zs20).toArray.size = 20; simp [zs20_len]) (by decide) _ i (idc (l.take i)) rfl ow2.out (some ⟨wr.heap.size, 0, none⟩) 1 1 (bvs x) rfl (by simp [HX20.out]) sx.out (bvs_one x) (by omega) (by unfold maxLen; omega) (by simp; omega) ?_
           intro v2 w2 hw2 hg2))
      go_roundw
      case rel => exact ⟨i + 1, by simp, by omega, by rw [idc_snoc l i hil, ← HX.out]; exact hw2, Below.app hbw2.out ow2.out hg2 (by simp; omega)⟩
      case measure => simp only [intOf]; omega
    · obtain rfl : i = n := by omega
      go_wp2
      go_ret
      exact ⟨_, rfl, by rw [HN.out, List.take_of_length_le (Nat.le_refl _), ← HN.out] at hown; exact hown, hbw⟩
end Go.Proofs.Ytjiiploleinobaa
