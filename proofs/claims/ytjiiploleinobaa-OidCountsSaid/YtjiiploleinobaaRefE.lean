/- oid.Find: sort.Search in a rising row of names. Conditions: twenty bytes each, fewer than 256 names. -/
import Derived.Test.YtjiiploleinobaaRefB
namespace Go.Proofs.Ytjiiploleinobaa
open Go.RowKit
open Go.Sort (ltStr)
set_option maxRecDepth 100000
set_option maxHeartbeats 4000000
set_option linter.unusedVariables false
theorem load_slice (b : Nat) (v : Value) (w : World) (h : w.heap[b]? = some (.cells #[v] 36 (0, 0))) : (loadVar 36 ⟨b, 0, none⟩).run Try.prog w = .ok v w := by
  have hagg : (isAgg 36).run Try.prog w = .ok false w := by kernel_rfl
  have hc : w.cell? ⟨b, 0, none⟩ = some v := by rw [cell_of_row _ _ _ _ _ _ h]; rfl
  simp [loadVar, Sem.run_bind, hagg, run_load, hc]
/-- what the closure sees: the boxes of the row and of the name -/
structure Seen (w : World) (p q : Nat) (A : Option Addr) (n c : Nat) (l : List (List UInt8)) (id : List UInt8) : Prop where
  row : w.heap[p]? = some (.cells #[.slice A n c] 36 (0, 0))
  name : Sl w (some ⟨q, 0, none⟩) (bvs id)
  sl : Sl w A (idc l)
theorem Seen.below {w w' : World} {p q : Nat} {A : Option Addr} {n c : Nat} {l : List (List UInt8)} {id : List UInt8} (h : Seen w p q A n c l id) (hb : Below w.heap.size w w') : Seen w' p q A n c l id :=
  ⟨(hb.block p (Array.getElem?_eq_some_iff.1 h.row).1).trans h.row, h.name.below hb, h.sl.below hb⟩
theorem find_fn (l : List (List UInt8)) (h20 : All20 l) (n : Nat) (hnn : n = l.length) (hn : n < 256) (A : Option Addr) (c p q : Nat) (id : List UInt8) (hid : id.length = 20) (w : World) (hS : Seen w p q A n c l id) (i : Nat) (hi : i < n) (r : Bool) (hr : ltStr (l.getD i []) id = r) :
    Calls Try.prog 36 #[.int .i64 (i : Int), .pointer (some ⟨p, 0, none⟩), .pointer (some ⟨q, 0, none⟩)] w fun e w' => e = .returned (.bool (!r)) ∧ Below w.heap.size w w' := by
  have hil : i < l.length := by omega
  obtain ⟨ad, rfl⟩ : ∃ ad, A = some ad := by
    cases A with
    | some ad => exact ⟨ad, rfl⟩
    | none =>
      have := sl_none hS.sl h20
      rw [this] at hil
      simp at hil
  have hrow := sl_row hS.sl h20 i hil
  have hx20 := get20 h20 i hil
  obtain ⟨x, hx⟩ : ∃ x, x = l.getD i [] := ⟨_, rfl⟩
  rw [← hx] at hrow hx20 hr
  have l1 : ∀ w', Below w.heap.size w w' → (loadVar 36 ⟨p, 0, none⟩).run Try.prog w' = .ok (.slice (some ad) n c) w' := fun w' h => load_slice p _ _ (hS.below h).row
  have l2 : ∀ w', Below w.heap.size w w' → (loadVar 23 (ad.add (i * 20))).run Try.prog w' = .ok (idv x) w' := fun w' h => load_id x hx20 _ _ (hrow.below h)
  have l3 : ∀ w', Below w.heap.size w w' → (loadVar 23 ⟨q, 0, none⟩).run Try.prog w' = .ok (idv id) w' := fun w' h => load_id id hid _ _ (hS.below h).name
  have c1 : ∀ w', Below w.heap.size w w' → Calls Try.prog 13 #[idv x, idv id] w' fun e w'' => e = .returned (.bool r) ∧ Below w.heap.size w w'' := fun w' h => by
    have := quietB h (less_any x id w' hx20 hid); rwa [cmp_str, hr] at this
  have L1 := Lib.hid l1; have L2 := Lib.hid l2; have L3 := Lib.hid l3
  clear l1 l2 l3 hrow hx20 hx hr hS h20 hid hnn
  cases r
  all_goals
    go_enter Try.func36, Try.ntmps36
    go_wp2
    refine wp_region_quietC (C := fun w' => Below w.heap.size w w') (Below.refl _ _).drew (by kernel_rfl) (by kernel_rfl) ?_
    repeat (first
      | (refine wpQuiet_load 36 (.tmp 1) rfl ⟨p, 0, none⟩ rfl (.slice (some ad) n c) L1.out _ rfl rfl ?_; simp only [List.set_cons_succ, List.set_cons_zero])
      | (refine wpQuiet_load 23 (.tmp 7) rfl (ad.add (i * 20)) rfl (idv x) L2.out _ rfl rfl ?_; simp only [List.set_cons_succ, List.set_cons_zero])
      | (refine wpQuiet_load 23 (.tmp 2) rfl ⟨q, 0, none⟩ rfl (idv id) L3.out _ rfl rfl ?_; simp only [List.set_cons_succ, List.set_cons_zero])
      | go_big_quiet_step ((intro hb; first | (with_reducible exact c1 _ hb) | rfl)))
    refine wpQuiet_nil ?_
    intro w' hw'
    go_wp2
    go_ret
    exact ⟨rfl, hw'⟩
theorem ris_lt {l : List (List UInt8)} (h : Ris l) {i j : Nat} (hij : i < j) (hj : j < l.length) : l.getD i [] < l.getD j [] := by
  rw [List.getD_eq_getElem?_getD, List.getD_eq_getElem?_getD, List.getElem?_eq_getElem (by omega), List.getElem?_eq_getElem hj]
  exact List.pairwise_iff_getElem.1 h i j (by omega) hj hij
theorem mono_t {l : List (List UInt8)} (h : Ris l) {id : List UInt8} {i j : Nat} (hij : i ≤ j) (hj : j < l.length) (ht : ltStr (l.getD j []) id = true) : ltStr (l.getD i []) id = true := by
  rcases Nat.lt_or_eq_of_le hij with g | g
  · have := ris_lt h g hj
    simp only [ltStr, decide_eq_true_eq] at ht ⊢
    exact List.lt_trans this ht
  · rw [g]; exact ht
theorem mono_f {l : List (List UInt8)} (h : Ris l) {id : List UInt8} {i j : Nat} (hij : i ≤ j) (hj : j < l.length) (ht : ltStr (l.getD i []) id = false) : ltStr (l.getD j []) id = false := by
  cases hq : ltStr (l.getD j []) id with
  | false => rfl
  | true => rw [mono_t h hij hj hq] at ht; cases ht
theorem search_any (l : List (List UInt8)) (hris : Ris l) (h20 : All20 l) (n : Nat) (hnn : n = l.length) (hn : n < 256) (A : Option Addr) (c p q : Nat) (id : List UInt8) (hid : id.length = 20) (w : World) (hS : Seen w p q A n c l id) :
    Calls Try.prog 35 #[.int .i64 (n : Int), .func (.func 36) #[] #[.pointer (some ⟨p, 0, none⟩), .pointer (some ⟨q, 0, none⟩)]] w fun e w' => e = .returned (.int .i64 (fk l id : Nat)) ∧ Below w.heap.size w w' := by
  have HS := Lib.hid hS; have H20 := Lib.hid h20; have HN := Lib.hid hnn; have HID := Lib.hid hid; have HR := Lib.hid hris
  clear hS h20 hnn hid hris
  go_enter Try.func35, Try.ntmps35
  go_wp2
  go_loopw [5, 6] (fun t5 t6 wr => ∃ i j : Nat, t5 = .int .i64 (i : Int) ∧ t6 = .int .i64 (j : Int) ∧ i ≤ j ∧ j ≤ n ∧ Hid (∀ k, k < i → ltStr (l.getD k []) id = true) ∧ Hid (∀ k, j ≤ k → k < n → ltStr (l.getD k []) id = false) ∧ Below w.heap.size w wr) (fun t5 t6 _ => (intOf t6 - intOf t5).toNat)
  case atStart => exact ⟨0, n, rfl, rfl, by omega, Nat.le_refl _, Lib.hid (fun k h => by omega), Lib.hid (fun k h1 h2 => by omega), Below.refl _ _⟩
  case round =>
    obtain ⟨i, j, rfl, rfl, hij, hjn, hT, hF, hbw⟩ := hrel
    by_cases hlt : i < j
    · obtain ⟨h, hh⟩ : ∃ h, h = (i + j) / 2 := ⟨_, rfl⟩
      have h1 : i ≤ h := by omega
      have h2 : h < j := by omega
      have e1 : ((i : Int) + (j : Int)) / 2 = (h : Int) := by omega
      have e2 : IntKind.u64.wrap ((i : Int) + (j : Int)) = (i : Int) + (j : Int) := by rw [IntKind.wrap_u64]; omega
      obtain ⟨r, hr⟩ : ∃ r, ltStr (l.getD h []) id = r := ⟨_, rfl⟩
      have k1 := find_fn l H20.out n HN.out hn A c p q id HID.out wr (HS.out.below hbw) h (by omega) r hr
      have HRR := Lib.hid hr
      clear hh hr
      cases r with
      | true =>
        go_wp2_with (go_at_call 36; (with_reducible refine k1.mono ?_); rintro e w1 ⟨rfl, hb1⟩)
        go_roundw
        case rel => exact ⟨h + 1, j, by simp, rfl, by omega, hjn, Lib.hid (fun k hk => mono_t HR.out (by omega) (by rw [← HN.out]; omega) HRR.out), hF, hbw.trans (hb1.mono hbw.size)⟩
        case measure => simp only [intOf]; omega
      | false =>
        go_wp2_with (go_at_call 36; (with_reducible refine k1.mono ?_); rintro e w1 ⟨rfl, hb1⟩)
        go_roundw
        case rel => exact ⟨i, h, rfl, rfl, h1, by omega, hT, Lib.hid (fun k hk hk2 => mono_f HR.out hk (by rw [← HN.out]; omega) HRR.out), hbw.trans (hb1.mono hbw.size)⟩
        case measure => simp only [intOf]; omega
    · obtain rfl : i = j := by omega
      have hfk : fk l id = i := fk_of l id i (by rw [← HN.out]; exact hjn) hT.out (fun h => hF.out i (Nat.le_refl _) (by rw [HN.out]; exact h))
      have HFK := Lib.hid hfk
      clear hfk
      go_wp2
      go_ret
      exact ⟨by rw [HFK.out]; rfl, hbw⟩
end Go.Proofs.Ytjiiploleinobaa
