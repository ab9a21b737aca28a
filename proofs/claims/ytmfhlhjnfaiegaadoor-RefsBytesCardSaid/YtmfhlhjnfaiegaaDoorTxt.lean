/- rows.text: the rows' lines, one behind the other; sum: the last line. Conditions: twenty bytes each, at most 256 rows, names of at most 2^30 bytes. -/
import Derived.Test.YtmfhlhjnfaiegaaDoorRefR
import Derived.Test.YtmfhlhjnfaiegaaDoorBld
import Derived.Test.YtmfhlhjnfaiegaaDoorShaD
namespace Go.Proofs.YtmfhlhjnfaiegaaDoor
open Go.RowKit
set_option maxRecDepth 100000
set_option maxHeartbeats 1000000
set_option linter.unusedVariables false
theorem builderAt_below {T e : TypeId} {B b : Nat} {p : Value} {bs : List Value} {w w' : World} (h : Lib.BuilderAt T e B b p bs w) (hb : Below w.heap.size w w') : Lib.BuilderAt T e B b p bs w' := by
  obtain ⟨hB, v, hk, hown, hne⟩ := h
  exact ⟨hB, v, (hb.block _ (Array.getElem?_eq_some_iff.1 hk).1).trans hk, ownsRow_below hown hb, hne⟩
theorem isBuilder_below {T e : TypeId} {B b : Nat} {bs : List Value} {w w' : World} (h : Lib.IsBuilder T e B b bs w) (hb : Below w.heap.size w w') : Lib.IsBuilder T e B b bs w' :=
  h.imp (fun h => builderAt_below h hb) (fun h => builderAt_below h hb)
theorem line_len {r : Rf} (h20 : r.2.length = 20) : (lineB r).length = r.1.length + 42 := by
  simp [lineB, hexs_len, h20]; omega
theorem text_take (l : List Rf) (i : Nat) (h : i < l.length) : textB (l.take (i + 1)) = textB (l.take i) ++ lineB (gtR l i) := by
  unfold textB gtR
  rw [List.take_add_one, List.flatMap_append, List.getElem?_eq_getElem h, List.getD_eq_getElem?_getD, List.getElem?_eq_getElem h]
  simp
theorem text_len : ∀ (l : List Rf), Rf20 l → (∀ r ∈ l, r.1.length ≤ 1073741824) → (textB l).length ≤ l.length * 1073741866
  | [], _, _ => by simp [textB]
  | r :: l, h, hs => by
    have ih := text_len l (fun x hx => h x (by simp [hx])) (fun x hx => hs x (by simp [hx]))
    have := hs r (by simp)
    rw [text_cons, List.length_append, line_len (h r (by simp)), List.length_cons, Nat.succ_mul]
    omega
theorem text_any (l : List Rf) (h20 : Rf20 l) (hn : l.length ≤ 256) (hs : ∀ r ∈ l, r.1.length ≤ 1073741824) (A : Option Addr) (c : Nat) (w : World) (hA : Sl w A (rfc l)) :
    Calls Tryd.prog 19 #[.slice A l.length c] w fun e w' => e = .returned (.string (bstr (textB l))) ∧ Below w.heap.size w w' := by
  obtain ⟨n, hnn⟩ : ∃ n, n = l.length := ⟨_, rfl⟩
  have hlen := fun i => text_len (l.take i) (fun x hx => h20 x (List.mem_of_mem_take hx)) (fun x hx => hs x (List.mem_of_mem_take hx))
  rw [← hnn]
  have hn2 : n ≤ 256 := by omega
  have HN := Lib.hid hnn; have HA := Lib.hid hA; have H20 := Lib.hid h20; have HS := Lib.hid hs; have HL := Lib.hid hlen
  obtain ⟨W0, hW0⟩ : ∃ W0, W0 = w.alloc (.cells #[.pointer none, .slice none 0 0] 74) := ⟨_, rfl⟩
  have hb0 : Below w.heap.size w W0 := by rw [hW0]; exact (Below.refl _ _).alloc (Nat.le_refl _) _
  have B0 : Lib.IsBuilder 74 5 w.heap.size w.heap.size [] W0 := by rw [hW0]; exact Lib.fresh_isBuilder _ _ _
  have HW0 := Lib.hid hW0; have HB0 := Lib.hid B0; have HBB0 := Lib.hid hb0
  clear hnn hA h20 hs hn hlen hW0 B0 hb0
  go_enter Tryd.func19, Tryd.ntmps19
  go_upto_region 2 with fail
  rw [← HW0.out]
  go_wp2
  go_loopw [8] (fun t8 wr => ∃ i : Nat, t8 = .int .i64 (i : Int) ∧ i ≤ n ∧ Hid (Lib.IsBuilder 74 5 w.heap.size w.heap.size (Lib.byteCells (textB (l.take i))) wr) ∧ Below w.heap.size w wr) (fun t8 _ => (n - intOf t8).toNat)
  case atStart => exact ⟨0, rfl, by omega, HB0, HBB0.out⟩
  case round =>
    obtain ⟨i, rfl, hi, HB, hbw⟩ := hrel
    by_cases hin : i < n
    · have hil : i < l.length := by rw [← HN.out]; exact hin
      obtain ⟨ad, rfl⟩ := rsl_some HA.out H20.out i hil
      have R := (rrow HA.out H20.out i hil).below hbw
      have r20 := gtR_20 H20.out i hil
      have rs : (gtR l i).1.length ≤ 1073741824 := HS.out _ (by
        unfold gtR
        rw [List.getD_eq_getElem?_getD, List.getElem?_eq_getElem hil]
        exact List.getElem_mem hil)
      have ht := text_take l i hil
      have hl1 := HL.out i
      have hti : (l.take i).length ≤ 256 := by rw [List.length_take]; omega
      have hl2 : (textB (l.take i)).length ≤ 256 * 1073741866 := Nat.le_trans hl1 (Nat.mul_le_mul_right _ hti)
      obtain ⟨r, hr⟩ : ∃ r, r = gtR l i := ⟨_, rfl⟩
      rw [← hr] at R r20 rs ht
      have lr := load_ref r20 R
      have zi := Lib.hid (infoR r20)
      have zz := Lib.hid (zeroR r20)
      obtain ⟨r1, b1⟩ := new_set wr 47 zrf (rcell r).toArray
      obtain ⟨W1, hW1⟩ : ∃ W1, W1 = (wr.alloc (.cells zrf 47)).setRow wr.heap.size (rcell r).toArray := ⟨_, rfl⟩
      rw [← hW1] at r1 b1
      have HW1 := Lib.hid hW1
      have RR := Lib.hid hr
      have B1 := isBuilder_below HB.out b1
      have b01 := hbw.trans (b1.mono hbw.size)
      have S1 : Sl W1 (some ⟨wr.heap.size, 0, none⟩) (rcell r) := Sl.of_block r1 (fun j v hj => by simpa using hj)
      have l1 : ∀ w', Below W1.heap.size W1 w' → (loadVar 9 ⟨wr.heap.size, 0, none⟩).run Tryd.prog w' = .ok (.string (bstr r.1)) w' := fun w' h => load_one (fun w => by kernel_rfl) (rname (S1.below h))
      have l2 : ∀ w', Below W1.heap.size W1 w' → (loadVar 41 ⟨wr.heap.size, 1, none⟩).run Tryd.prog w' = .ok (idv r.2) w' := fun w' h => load_idT 41 (fun w => by kernel_rfl) (fun w => by kernel_rfl) r.2 r20 _ w' (by have := rid (S1.below h); rwa [add_plain] at this)
      have c1 : ∀ w', Below W1.heap.size W1 w' → Calls Tryd.prog 35 #[idv r.2] w' fun e w'' => e = .returned (.string (bstr (hexs r.2))) ∧ Below W1.heap.size W1 w'' := fun w' h => quietB h (hex_any r.2 w' r20)
      have hln := line_len r20
      have cw : ∀ w', Below W1.heap.size W1 w' → Calls Tryd.prog 34 #[.pointer (some ⟨w.heap.size, 0, none⟩), .string (bstr (lineB r))] w' fun e w'' => e = .returned (.tuple #[.int .i64 (bstr (lineB r)).size, .nilIface]) ∧ (Lib.IsBuilder 74 5 w.heap.size w.heap.size (Lib.byteCells (textB (l.take (i + 1)))) w'' ∧ Below w.heap.size w w'') := fun w' h => by
        have hw' := b01.trans (h.mono b01.size)
        refine (wstr_any w.heap.size w.heap.size (Lib.byteCells (textB (l.take i))) (bstr (lineB r)) w' (isBuilder_below B1 h) (by
          rw [show (bstr (lineB r)).size = (lineB r).length by show (lineB r).toArray.size = _; simp, Lib.byteCells_length, hln]; omega) hw'.size).mono ?_
        rintro e w'' ⟨rfl, hB, hb⟩
        refine ⟨rfl, .inr ?_, hw'.trans hb⟩
        rw [ht]
        rw [show Lib.byteCells (textB (l.take i) ++ lineB r) = Lib.byteCells (textB (l.take i)) ++ Lib.strCells (bstr (lineB r)) by simp [Lib.byteCells, Lib.strCells]]
        exact hB
      have L1 := Lib.hid l1; have L2 := Lib.hid l2; have C1 := Lib.hid c1; have CW := Lib.hid cw; have hin' := hin
      have heq : (bstr (hexs r.2) ++ ⟨#[32]⟩ ++ bstr r.1 ++ ⟨#[10]⟩ : ByteArray) = bstr (lineB r) := by
        apply ByteArray.ext
        simp [lineB]
      have HEQ := Lib.hid heq
      have H1 := Lib.hid (show (hexs r.2).length = 40 by rw [hexs_len, r20])
      have H2 := Lib.hid rs
      clear l1 l2 c1 cw hln B1 r1 b1 b01 ht hl1 hl2 hti rs S1 hr hW1 heq R HB
      go_upto_region 5 with (first
        | (refine wpList_loadG 47 (.tmp 10) rfl (ad.add (i * 21)) rfl (rfv r) lr rfl ?_)
        | (refine wpList_store_row rfl 47 (.tmp 5) (.tmp 11) rfl wr.heap.size (rcell r).toArray rfl rfl 47 _ (heap_alloc_new _ _) zi.out zz.out (rone r) ?_))
      simp only [rlit, Act.put]
      rw [← HW1.out]
      refine wp_region_quiet_tail 8 (C := fun w' => Below W1.heap.size W1 w') (Below.refl _ _).drew (by kernel_rfl) (by kernel_rfl) ?_
      simp only [List.take_succ_cons, List.take_zero, List.drop_succ_cons, List.drop_zero]
      go_big_quiet_step ((intro hb; rfl))
      (refine wpQuiet_load 41 (.tmp 12) rfl ⟨wr.heap.size, 1, none⟩ rfl (idv r.2) L2.out _ rfl rfl ?_; simp only [List.set_cons_succ, List.set_cons_zero])
      go_big_quiet_step ((intro hb; (with_reducible exact C1.out _ hb)))
      go_big_quiet_step ((intro hb; rw [if_neg (by have := H1.out; omega)]; exact ⟨rfl, rfl⟩))
      go_big_quiet_step ((intro hb; rfl))
      (refine wpQuiet_load 9 (.tmp 16) rfl ⟨wr.heap.size, 0, none⟩ rfl (.string (bstr r.1)) L1.out _ rfl rfl ?_; simp only [List.set_cons_succ, List.set_cons_zero])
      go_big_quiet_step ((intro hb; rw [if_neg (by have := H1.out; have := H2.out; simp; omega)]; exact ⟨rfl, rfl⟩))
      go_big_quiet_step ((intro hb; rw [if_neg (by have := H1.out; have := H2.out; simp; omega)]; exact ⟨rfl, rfl⟩))
      refine wpQuiet_nil ?_
      intro w' hw'
      simp only [HEQ.out]
      go_wp2_with (go_at_call 34; (with_reducible refine (CW.out w' hw').mono ?_); rintro e w2 ⟨rfl, hB2, hb2⟩)
      have HB2 := Lib.hid hB2
      clear hB2
      go_roundw
      case rel => exact ⟨i + 1, by simp, by omega, HB2, hb2⟩
      case measure => simp only [intOf]; omega
    · obtain rfl : i = n := by omega
      have hb1 := HB.out
      rw [List.take_of_length_le (by rw [← HN.out]; exact Nat.le_refl _)] at hb1
      have HB1 := Lib.hid hb1
      clear hb1 HB
      go_wp2_with (go_at_call 36; (with_reducible refine (Tryd.Builder_String_any w.heap.size w.heap.size (textB l) _ HB1.out hbw.size).mono ?_); rintro e w2 ⟨rfl, hb2⟩)
      go_ret
      exact ⟨rfl, hbw.trans hb2⟩
end Go.Proofs.YtmfhlhjnfaiegaaDoor
