/- The reference's Find in a row of names. Conditions: twenty bytes each, fewer than 256 names. -/
import Derived.Test.YtjiiploleinobaaRefA
import Derived.Test.YtjiiploleinobaaSrtR
import Derived.Test.YtjiiploleinobaaOidT
namespace Go.Proofs.Ytjiiploleinobaa
open Go.RowKit
open Go.Sort (ltStr)
set_option maxRecDepth 100000
set_option maxHeartbeats 4000000
set_option linter.unusedVariables false
/-- the place of a name: how many stand ahead that are less -/
def fk (l : List (List UInt8)) (id : List UInt8) : Nat := (l.takeWhile (fun x => ltStr x id)).length
def fis (l : List (List UInt8)) (id : List UInt8) : Bool := decide (fk l id < l.length ∧ l.getD (fk l id) [] = id)
theorem fk_of : ∀ (l : List (List UInt8)) (id : List UInt8) (k : Nat), k ≤ l.length → (∀ j, j < k → ltStr (l.getD j []) id = true) → (k < l.length → ltStr (l.getD k []) id = false) → fk l id = k
  | [], id, k, h, _, _ => by simp at h; subst h; rfl
  | x :: l, id, 0, _, _, h3 => by
    have := h3 (by simp)
    simp at this
    simp [fk, List.takeWhile, this]
  | x :: l, id, k + 1, h1, h2, h3 => by
    have h0 := h2 0 (by omega)
    simp at h0
    have ih := fk_of l id k (by simpa using h1) (fun j hj => by simpa using h2 (j + 1) (by omega)) (fun hk => by simpa using h3 (by simpa using hk))
    unfold fk at *
    rw [List.takeWhile_cons, h0]
    simp [ih]
theorem sl_row {w : World} {ad : Addr} {l : List (List UInt8)} (h : Sl w (some ad) (idc l)) (h20 : All20 l) (i : Nat) (hi : i < l.length) : Sl w (some (ad.add (i * 20))) (bvs (l.getD i [])) := fun j v hj => by
  have hj20 : j < 20 := by
    have := (List.getElem?_eq_some_iff.1 hj).1
    rw [bvs_length] at this
    have h2 := h20 (l.getD i []) (by rw [List.getD_eq_getElem?_getD, List.getElem?_eq_getElem hi]; exact List.getElem_mem hi)
    omega
  rw [← idc_at l h20 i j hi hj20] at hj
  obtain ⟨ad', e, hc⟩ := h _ v hj
  injection e with e
  subst e
  exact ⟨_, rfl, by rw [Addr.add_add]; exact hc⟩
theorem get20 {l : List (List UInt8)} (h20 : All20 l) (i : Nat) (hi : i < l.length) : (l.getD i []).length = 20 :=
  h20 _ (by rw [List.getD_eq_getElem?_getD, List.getElem?_eq_getElem hi]; exact List.getElem_mem hi)
theorem sl_none {w : World} {l : List (List UInt8)} (h : Sl w none (idc l)) (h20 : All20 l) : l = [] := by
  cases l with
  | nil => rfl
  | cons x t =>
    have hlen := idc_len _ h20
    have : 0 < (idc (x :: t)).length := by rw [hlen]; simp
    obtain ⟨ad, e, _⟩ := h 0 _ (List.getElem?_eq_getElem this)
    cases e
theorem reffind_any (l : List (List UInt8)) (h20 : All20 l) (hn : l.length < 256) (A : Option Addr) (c : Nat) (id : List UInt8) (hid : id.length = 20) (w : World) (hA : Sl w A (idc l)) :
    Calls Try.prog 18 #[.slice A l.length c, idv id] w fun e w' => e = .returned (.tuple #[.int .i64 (fk l id : Nat), .bool (fis l id)]) ∧ Below w.heap.size w w' := by
  obtain ⟨n, hnn⟩ : ∃ n, n = l.length := ⟨_, rfl⟩
  rw [← hnn]
  obtain ⟨W0, hW0⟩ : ∃ W0, W0 = w.alloc (.cells (bvs id).toArray 22) := ⟨_, rfl⟩
  have hb0 : Below w.heap.size w W0 := by rw [hW0]; exact (Below.refl _ _).alloc (Nat.le_refl _) _
  have I0 : Sl W0 (some ⟨w.heap.size, 0, none⟩) (bvs id) := by
    rw [hW0]
    exact Sl.of_block (heap_alloc_new _ _) (fun j v hj => by simpa using hj)
  have A0 : Sl W0 A (idc l) := Sl.below hA hb0
  have HW0 := Lib.hid hW0; have HI0 := Lib.hid I0; have HA0 := Lib.hid A0; have Hb0 := Lib.hid hb0
  have H20 := Lib.hid h20; have HID := Lib.hid hid; have HN := Lib.hid hnn
  have hn2 : n < 256 := by rw [hnn]; exact hn
  clear hW0 I0 A0 hb0 h20 hid hnn hA hn
  go_enter Try.func18, Try.ntmps18
  go_upto_block 0 with (fail)
  rw [← HW0.out]
  go_wp2_with fail
  go_loopw [6] (fun t6 wr => ∃ i : Nat, t6 = .int .i64 (i : Int) ∧ i ≤ n ∧ Hid (∀ j, j < i → ltStr (l.getD j []) id = true) ∧ Below W0.heap.size W0 wr) (fun t6 _ => (n - intOf t6).toNat)
  case atStart => exact ⟨0, rfl, by omega, Lib.hid (fun j hj => by omega), Below.refl _ _⟩
  case round =>
    obtain ⟨i, rfl, hi, hT, hbw⟩ := hrel
    by_cases hin : i < n
    · have hil : i < l.length := by rw [← HN.out]; exact hin
      obtain ⟨ad, rfl⟩ : ∃ ad, A = some ad := by
        cases A with
        | some ad => exact ⟨ad, rfl⟩
        | none =>
          have := sl_none HA0.out H20.out
          rw [this] at hil
          simp at hil
      have hr := sl_row HA0.out H20.out i hil
      obtain ⟨x, hx⟩ : ∃ x, x = l.getD i [] := ⟨_, rfl⟩
      have hx20 := get20 H20.out i hil
      rw [← hx] at hr hx20
      have lx : ∀ w', Below wr.heap.size wr w' → (loadVar 22 (ad.add (i * 20))).run Try.prog w' = .ok (idv x) w' := fun w' h => load_id22 x hx20 _ _ ((hr.below hbw).below h)
      have li : ∀ w', Below wr.heap.size wr w' → (loadVar 22 ⟨w.heap.size, 0, none⟩).run Try.prog w' = .ok (idv id) w' := fun w' h => load_id22 id HID.out _ _ ((HI0.out.below hbw).below h)
      obtain ⟨q, hq⟩ : ∃ q, ltStr x id = q := ⟨_, rfl⟩
      have c1 : ∀ w', Below wr.heap.size wr w' → Calls Try.prog 37 #[idv x, idv id] w' fun e w'' => e = .returned (.bool q) ∧ Below wr.heap.size wr w'' := fun w' h => by
        have := quietB h (refless_any x id hx20 HID.out w'); rwa [hq] at this
      have LX := Lib.hid lx; have LI := Lib.hid li; have HX := Lib.hid hx; have HQ := Lib.hid hq
      have HX20 := Lib.hid hx20
      clear lx li hx hq hr hx20
      cases q with
      | true =>
        go_wp2
        refine wp_region_quietC (C := fun w' => Below wr.heap.size wr w') (Below.refl _ _).drew (by kernel_rfl) (by kernel_rfl) ?_
        repeat (first
          | (refine wpQuiet_load 22 (.tmp 15) rfl (ad.add (i * 20)) rfl (idv x) LX.out _ rfl rfl ?_; simp only [List.set_cons_succ, List.set_cons_zero])
          | (refine wpQuiet_load 22 (.tmp 3) rfl ⟨w.heap.size, 0, none⟩ rfl (idv id) LI.out _ rfl rfl ?_; simp only [List.set_cons_succ, List.set_cons_zero])
          | go_big_quiet_step ((intro hb; first | (with_reducible exact c1 _ hb) | rfl)))
        refine wpQuiet_nil ?_
        intro w' hw'
        go_wp2
        go_roundw
        case rel => exact ⟨i + 1, by simp, by omega, Lib.hid (fun j hj => by
          by_cases e : j = i
          · subst e; rw [← HX.out]; exact HQ.out
          · exact hT.out j (by omega)), hbw.trans (hw'.mono hbw.size)⟩
        case measure => simp only [intOf]; omega
      | false =>
        have hfk : fk l id = i := fk_of l id i (by omega) hT.out (fun _ => by rw [← HX.out]; exact HQ.out)
        have hfis : fis l id = decide (x = id) := by
          unfold fis
          rw [hfk, ← HX.out]
          simp [hil]
        have e1 : ∀ w, (Op.equalIn 10000 22 (idv x) (idv id)).run Try.prog w = .ok (decide (x = id)) w := fun w => eqlIn_run 22 Try.underlying22 x id HX20.out HID.out w
        obtain ⟨z, hz⟩ : ∃ z, z = decide (x = id) := ⟨_, rfl⟩
        rw [← hz] at e1 hfis
        have HFK := Lib.hid hfk; have HFI := Lib.hid hfis
        clear hfk hfis hz
        go_wp2
        refine wp_region_quietC (C := fun w' => Below wr.heap.size wr w') (Below.refl _ _).drew (by kernel_rfl) (by kernel_rfl) ?_
        repeat (first
          | (refine wpQuiet_load 22 (.tmp 15) rfl (ad.add (i * 20)) rfl (idv x) LX.out _ rfl rfl ?_; simp only [List.set_cons_succ, List.set_cons_zero])
          | (refine wpQuiet_load 22 (.tmp 3) rfl ⟨w.heap.size, 0, none⟩ rfl (idv id) LI.out _ rfl rfl ?_; simp only [List.set_cons_succ, List.set_cons_zero])
          | go_big_quiet_step ((intro hb; first | (with_reducible exact c1 _ hb) | rfl)))
        refine wpQuiet_nil ?_
        intro w' hw'
        go_wp2
        have lx2 : ∀ w'', Below w'.heap.size w' w'' → (loadVar 22 (ad.add (i * 20))).run Try.prog w'' = .ok (idv x) w'' := fun w'' h => LX.out w'' (hw'.trans (h.mono hw'.size))
        have li2 : ∀ w'', Below w'.heap.size w' w'' → (loadVar 22 ⟨w.heap.size, 0, none⟩).run Try.prog w'' = .ok (idv id) w'' := fun w'' h => LI.out w'' (hw'.trans (h.mono hw'.size))
        have LX2 := Lib.hid lx2; have LI2 := Lib.hid li2
        clear lx2 li2
        refine wp_region_quietC (C := fun w'' => Below w'.heap.size w' w'') (Below.refl _ _).drew (by kernel_rfl) (by kernel_rfl) ?_
        repeat (first
          | (refine wpQuiet_load 22 (.tmp 23) rfl (ad.add (i * 20)) rfl (idv x) LX2.out _ rfl rfl ?_; simp only [List.set_cons_succ, List.set_cons_zero])
          | (refine wpQuiet_load 22 (.tmp 3) rfl ⟨w.heap.size, 0, none⟩ rfl (idv id) LI2.out _ rfl rfl ?_; simp only [List.set_cons_succ, List.set_cons_zero])
          | go_big_quiet_step ((intro hb; rfl)))
        refine wpQuiet_nil ?_
        intro w'' hw''
        go_wp2
        go_ret2
        exact ⟨by rw [HFK.out, HFI.out]; rfl, Hb0.out.trans ((hbw.trans ((hw'.trans (hw''.mono hw'.size)).mono hbw.size)).mono Hb0.out.size)⟩
    · obtain rfl : i = n := by omega
      have hfk : fk l id = i := fk_of l id i (by rw [HN.out]; exact Nat.le_refl _) hT.out (fun h => absurd h (by rw [← HN.out]; omega))
      have hfis : fis l id = false := by
        unfold fis
        rw [hfk]
        exact decide_eq_false (fun h => absurd h.1 (by rw [← HN.out]; omega))
      have HFK := Lib.hid hfk; have HFI := Lib.hid hfis
      clear hfk hfis
      go_wp2
      go_ret2
      exact ⟨by rw [HFK.out, HFI.out]; rfl, Hb0.out.trans (hbw.mono Hb0.out.size)⟩
end Go.Proofs.Ytjiiploleinobaa
