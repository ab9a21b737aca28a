/- oid.Find in a rising row of names. Conditions: twenty bytes each, fewer than 256 names. -/
import Derived.Test.YtjiiploleinobaaRefE
namespace Go.Proofs.Ytjiiploleinobaa
open Go.RowKit
open Go.Sort (ltStr)
set_option maxRecDepth 100000
set_option maxHeartbeats 4000000
set_option linter.unusedVariables false
theorem fk_le (l : List (List UInt8)) (id : List UInt8) : fk l id ≤ l.length := by
  unfold fk
  exact (List.takeWhile_sublist _).length_le
theorem find_any (l : List (List UInt8)) (hris : Ris l) (h20 : All20 l) (hn : l.length < 256) (A : Option Addr) (c : Nat) (id : List UInt8) (hid : id.length = 20) (w : World) (hA : Sl w A (idc l)) :
    Calls Try.prog 17 #[.slice A l.length c, idv id] w fun e w' => e = .returned (.tuple #[.int .i64 (fk l id : Nat), .bool (fis l id)]) ∧ Below w.heap.size w w' := by
  obtain ⟨n, hnn⟩ : ∃ n, n = l.length := ⟨_, rfl⟩
  rw [← hnn]
  have hn2 : n < 256 := by rw [hnn]; exact hn
  obtain ⟨W0, hW0⟩ : ∃ W0, W0 = (w.alloc (.cells #[.slice A n c] 36)).alloc (.cells (bvs id).toArray 23) := ⟨_, rfl⟩
  have hb0 : Below w.heap.size w W0 := by rw [hW0]; exact ((Below.refl _ _).alloc (Nat.le_refl _) _).alloc (by simp) _
  have hba : Below (w.alloc (.cells #[.slice A n c] 36)).heap.size (w.alloc (.cells #[.slice A n c] 36)) W0 := by rw [hW0]; exact (Below.refl _ _).alloc (Nat.le_refl _) _
  have seen : Seen W0 w.heap.size (w.heap.size + 1) A n c l id := by
    refine ⟨(hba.block _ (by simp)).trans (heap_alloc_new _ _), ?_, hA.below hb0⟩
    rw [hW0]
    have h := Sl.of_block (off := 0) (heap_alloc_new (w.alloc (.cells #[.slice A n c] 36)) (.cells (bvs id).toArray 23)) (l := bvs id) (fun j v hj => by simpa using hj)
    rwa [show (w.alloc (.cells #[.slice A n c] 36)).heap.size = w.heap.size + 1 by simp] at h
  have ks := search_any l hris h20 n hnn hn2 A c w.heap.size (w.heap.size + 1) id hid W0 seen
  have hle := fk_le l id
  obtain ⟨k, hk⟩ : ∃ k, k = fk l id := ⟨_, rfl⟩
  have hfis : fis l id = decide (k < n ∧ l.getD k [] = id) := by unfold fis; rw [← hk, hnn]
  rw [← hk] at ks hle ⊢
  rw [← hnn] at hle
  obtain ⟨z, hz⟩ : ∃ z, z = fis l id := ⟨_, rfl⟩
  rw [← hz]
  rw [← hz] at hfis
  have HW0 := Lib.hid hW0; have SE := Lib.hid seen; have Hb0 := Lib.hid hb0; have HN := Lib.hid hnn; have HID := Lib.hid hid; have H20 := Lib.hid h20; have HF := Lib.hid hfis
  clear hW0 seen hb0 hba hnn hid h20 hA hris hn hk hz hfis
  go_enter Try.func17, Try.ntmps17
  go_upto_region 1 with (fail)
  rw [← HW0.out]
  have r0 : W0.cell? ⟨w.heap.size, 0, none⟩ = some (.slice A n c) := by rw [cell_of_row _ _ _ _ _ _ SE.out.row]; rfl
  go_upto_region 2 with (go_at_call 35; (with_reducible refine ks.mono ?_); rintro e w1 ⟨rfl, hb1⟩)
  clear r0
  have l1 : ∀ w', Below w1.heap.size w1 w' → (loadVar 36 ⟨w.heap.size, 0, none⟩).run Try.prog w' = .ok (.slice A n c) w' := fun w' h => load_slice w.heap.size _ _ ((SE.out.below hb1).below h).row
  have l3 : ∀ w', Below w1.heap.size w1 w' → (loadVar 23 ⟨w.heap.size + 1, 0, none⟩).run Try.prog w' = .ok (idv id) w' := fun w' h => load_id id HID.out _ _ ((SE.out.below hb1).below h).name
  have L1 := Lib.hid l1; have L3 := Lib.hid l3
  clear l1 l3
  by_cases hkn : k < n
  · have hkl : k < l.length := by rw [← HN.out]; exact hkn
    obtain ⟨ad, rfl⟩ : ∃ ad, A = some ad := by
      cases A with
      | some ad => exact ⟨ad, rfl⟩
      | none =>
        have := sl_none SE.out.sl H20.out
        rw [this] at hkl
        simp at hkl
    have hx20 := get20 H20.out k hkl
    have hrow := (sl_row SE.out.sl H20.out k hkl).below hb1
    obtain ⟨x, hx⟩ : ∃ x, x = l.getD k [] := ⟨_, rfl⟩
    rw [← hx] at hx20 hrow
    have l2 : ∀ w', Below w1.heap.size w1 w' → (loadVar 23 (ad.add (k * 20))).run Try.prog w' = .ok (idv x) w' := fun w' h => load_id x hx20 _ _ (hrow.below h)
    have hzx : z = decide (x = id) := by rw [HF.out, ← hx]; simp [hkn]
    have e1 : ∀ w, (Op.equalIn 10000 23 (idv x) (idv id)).run Try.prog w = .ok z w := fun w => by rw [eqlIn_run 23 Try.underlying23 x id hx20 HID.out w, hzx]
    have L2 := Lib.hid l2
    clear l2 hx20 hrow hx hzx
    refine wp_region_quietC (C := fun w' => Below w1.heap.size w1 w') (Below.refl _ _).drew (by kernel_rfl) (by kernel_rfl) ?_
    repeat (first
      | (refine wpQuiet_load 36 (.tmp 2) rfl ⟨w.heap.size, 0, none⟩ rfl (.slice (some ad) n c) L1.out _ rfl rfl ?_; simp only [List.set_cons_succ, List.set_cons_zero])
      | (refine wpQuiet_load 23 (.tmp 19) rfl (ad.add (k * 20)) rfl (idv x) L2.out _ rfl rfl ?_; simp only [List.set_cons_succ, List.set_cons_zero])
      | (refine wpQuiet_load 23 (.tmp 3) rfl ⟨w.heap.size + 1, 0, none⟩ rfl (idv id) L3.out _ rfl rfl ?_; simp only [List.set_cons_succ, List.set_cons_zero])
      | go_big_quiet_step ((intro hb; rfl)))
    refine wpQuiet_nil ?_
    intro w' hw'
    go_wp2
    go_ret2
    exact ⟨rfl, Hb0.out.trans ((hb1.trans (hw'.mono hb1.size)).mono Hb0.out.size)⟩
  · have hz0 : z = false := by rw [HF.out]; simp [hkn]
    have ZZ := Lib.hid hz0
    clear hz0
    refine wp_region_quietC (C := fun w' => Below w1.heap.size w1 w') (Below.refl _ _).drew (by kernel_rfl) (by kernel_rfl) ?_
    repeat (first
      | (refine wpQuiet_load 36 (.tmp 2) rfl ⟨w.heap.size, 0, none⟩ rfl (.slice A n c) L1.out _ rfl rfl ?_; simp only [List.set_cons_succ, List.set_cons_zero])
      | go_big_quiet_step ((intro hb; rfl)))
    refine wpQuiet_nil ?_
    intro w' hw'
    go_wp2
    go_ret2
    exact ⟨by rw [ZZ.out]; rfl, Hb0.out.trans ((hb1.trans (hw'.mono hb1.size)).mono Hb0.out.size)⟩
end Go.Proofs.Ytjiiploleinobaa
