/- Less compares two names' bytes. No condition. -/
import Derived.Test.YtjiiploleinobaaOidE
import Derived.Lib.BytesEntry
namespace Go.Proofs.Ytjiiploleinobaa
open Go.RowKit
set_option maxRecDepth 100000
set_option maxHeartbeats 4000000
set_option linter.unusedVariables false
theorem run_bytesOf {w : World} {A : Addr} {l : List UInt8} {c : Nat} (h : Bs w (some A) l) : (Extern.Bytes.bytesOf (.slice (some A) l.length c)).run Try.prog w = .ok (bstr l) w := by
  have hl := Lib.run_loadBytesX (P := Try.prog) w (l.map fun c => (c.toNat : Int)) A .empty (fun j x hj => by
    obtain ⟨ad, e, hc⟩ := h j (.int .u8 x) (by
      simp only [bvs, List.getElem?_map, Option.map_eq_some_iff] at hj ⊢
      obtain ⟨y, hy, rfl⟩ := hj
      exact ⟨y, hy, rfl⟩)
    injection e with e
    subst e
    exact hc)
  rw [List.length_map] at hl
  have hb : Lib.bytesOf (l.map fun c => (c.toNat : Int)) = l := by
    unfold Lib.bytesOf
    rw [List.map_map]
    conv => rhs; rw [← List.map_id l]
    exact List.map_congr_left (fun c _ => by simp)
  rw [hb] at hl
  show (Extern.Bytes.loadBytes A l.length .empty).run Try.prog w = _
  rw [hl]
  congr 1
  apply ByteArray.ext
  show (#[] : Array UInt8) ++ l.toArray = l.toArray
  simp
theorem run_cmpS {w : World} {A B : Addr} {la lb : List UInt8} {c c' : Nat} (hA : Bs w (some A) la) (hB : Bs w (some B) lb) :
    (Extern.BytealgCompare.compare #[.slice (some A) la.length c, .slice (some B) lb.length c']).run Try.prog w = .ok (.int .i64 (Lib.compareBytes la lb)) w := by
  change Sem.run Try.prog (do pure (goInt (Extern.BytealgCompare.cmp (← Extern.Bytes.bytesOf (.slice (some A) la.length c)) (← Extern.Bytes.bytesOf (.slice (some B) lb.length c'))))) w = _
  simp only [Sem.run_bind, run_bytesOf hA, run_bytesOf hB, Sem.run_pure, Result.andThen]
  rw [Lib.cmp_eq]
  simp
  rfl
theorem compare_any (A B : Addr) (la lb : List UInt8) (c c' : Nat) (w : World) (hA : Bs w (some A) la) (hB : Bs w (some B) lb) :
    Calls Try.prog 29 #[.slice (some A) la.length c, .slice (some B) lb.length c'] w fun e w' => e = .returned (.int .i64 (Lib.compareBytes la lb)) ∧ w = w' := by
  have hr := run_cmpS (c := c) (c' := c') hA hB
  go_enter Try.func29, Try.ntmps29
  go_wp2
  rw [run_callFunc_extern Try.func42 (by kernel_rfl) (by kernel_rfl) (by kernel_rfl) (e := Extern.BytealgCompare.compare) (by kernel_rfl), hr]
  simp only [Result.andThen]
  rw [Oper.upon_value]
  go_wp2
  go_ret
  exact ⟨rfl, rfl⟩
theorem less_any (a b : List UInt8) (w : World) (ha : a.length = 20) (hb : b.length = 20) : Calls Try.prog 13 #[idv a, idv b] w fun e w' => e = .returned (.bool (decide (Lib.compareBytes a b < 0))) ∧ Below w.heap.size w w' := by
  have h1 : Bs ((w.alloc (.cells (bvs a).toArray 23)).alloc (.cells (bvs b).toArray 23)) (some ⟨w.heap.size, 0, none⟩) a :=
    Sl.below (Sl.of_block (heap_alloc_new _ _) (fun j v hj => by simpa using hj)) ((Below.refl _ _).alloc (Nat.le_refl _) _)
  have h2 : Bs ((w.alloc (.cells (bvs a).toArray 23)).alloc (.cells (bvs b).toArray 23)) (some ⟨w.heap.size + 1, 0, none⟩) b := by
    have : Bs ((w.alloc (.cells (bvs a).toArray 23)).alloc (.cells (bvs b).toArray 23)) (some ⟨(w.alloc (.cells (bvs a).toArray 23)).heap.size, 0, none⟩) b := Sl.of_block (heap_alloc_new _ _) (fun j v hj => by simpa using hj)
    rwa [show (w.alloc (.cells (bvs a).toArray 23)).heap.size = w.heap.size + 1 by simp] at this
  have hbl : Below w.heap.size w ((w.alloc (.cells (bvs a).toArray 23)).alloc (.cells (bvs b).toArray 23)) := ((Below.refl _ _).alloc (Nat.le_refl _) _).alloc (by simp) _
  go_enter Try.func13, Try.ntmps13
  go_wp2
  obtain ⟨W, hW⟩ : ∃ W, W = (w.alloc (.cells (bvs a).toArray 23)).alloc (.cells (bvs b).toArray 23) := ⟨_, rfl⟩
  rw [← hW] at h1 h2 hbl ⊢
  clear hW
  have kc : ∀ n, Calls Try.prog 29 #[.slice (some ⟨w.heap.size, 0, none⟩) 20 20, .slice (some ⟨w.heap.size + 1, 0, none⟩) 20 20] (W.drewN n) fun e w' => e = .returned (.int .i64 (Lib.compareBytes a b)) ∧ W.drewN n = w' := fun n => by
    have := compare_any ⟨w.heap.size, 0, none⟩ ⟨w.heap.size + 1, 0, none⟩ a b 20 20 (W.drewN n) (fun j v h => h1 j v h) (fun j v h => h2 j v h)
    rwa [ha, hb] at this
  go_quiet (exact quietN (kc _))
  go_wp2
  go_ret
  exact ⟨rfl, Below.drewN hbl _⟩
end Go.Proofs.Ytjiiploleinobaa
