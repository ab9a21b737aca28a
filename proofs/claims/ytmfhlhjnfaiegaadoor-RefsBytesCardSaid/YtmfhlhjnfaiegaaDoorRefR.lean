/- Rows of refs in memory; rows.right tells whether they may be. Conditions: twenty bytes each, at most 256 rows, names shorter than 2^30. -/
import Derived.Test.YtmfhlhjnfaiegaaDoorRefN
import Derived.Test.YtmfhlhjnfaiegaaDoorOidD
import Derived.Sort.Walk0
import Derived.Laws.Cover1
namespace Go.Proofs.YtmfhlhjnfaiegaaDoor
open Go.RowKit
set_option maxRecDepth 100000
set_option maxHeartbeats 1000000
set_option linter.unusedVariables false
theorem fm_len {α : Type} (f : α → List Value) (m : Nat) : ∀ (l : List α), (∀ x ∈ l, (f x).length = m) → (l.flatMap f).length = l.length * m
  | [], _ => by simp
  | x :: l, h => by
    rw [List.flatMap_cons, List.length_append, fm_len f m l (fun y hy => h y (by simp [hy])), h x (by simp), List.length_cons, Nat.succ_mul]
    omega
theorem fm_at {α : Type} (f : α → List Value) (m : Nat) (d : α) : ∀ (l : List α), (∀ x ∈ l, (f x).length = m) → ∀ (i j : Nat), i < l.length → j < m → (l.flatMap f)[i * m + j]? = (f (l.getD i d))[j]?
  | [], _, i, _, h, _ => by simp at h
  | x :: l, h, 0, j, _, hj => by
    rw [List.flatMap_cons, Nat.zero_mul, Nat.zero_add, List.getElem?_append_left (by rw [h x (by simp)]; exact hj)]
    rfl
  | x :: l, h, i + 1, j, hi, hj => by
    have ih := fm_at f m d l (fun y hy => h y (by simp [hy])) i j (by simpa using hi) hj
    have hx := h x (by simp)
    rw [List.flatMap_cons, List.getElem?_append_right (by rw [hx, Nat.succ_mul]; omega), hx, show (i + 1) * m + j - m = i * m + j by rw [Nat.succ_mul]; omega, ih]
    rfl
/-- a ref's cells -/
def rcell (r : Rf) : List Value := .string (bstr r.1) :: bvs r.2
abbrev rfv (r : Rf) : Value := .agg (rcell r).toArray
def rfc (l : List Rf) : List Value := l.flatMap rcell
abbrev gtR (l : List Rf) (i : Nat) : Rf := l.getD i ([], [])
theorem rcell_len {r : Rf} (h : r.2.length = 20) : (rcell r).length = 21 := by simp [rcell, h]
theorem rfc_len {l : List Rf} (h : Rf20 l) : (rfc l).length = l.length * 21 := fm_len rcell 21 l (fun r hr => rcell_len (h r hr))
theorem rfc_at {l : List Rf} (h : Rf20 l) (i j : Nat) (hi : i < l.length) (hj : j < 21) : (rfc l)[i * 21 + j]? = (rcell (gtR l i))[j]? :=
  fm_at rcell 21 ([], []) l (fun r hr => rcell_len (h r hr)) i j hi hj
theorem rfc_one (l : List Rf) : ∀ u ∈ rfc l, u.oneCell' = true := fun u hu => by
  unfold rfc at hu
  rw [List.mem_flatMap] at hu
  obtain ⟨r, _, hr⟩ := hu
  rcases List.mem_cons.1 hr with e | e
  · subst e; rfl
  · exact bvs_one _ u e
theorem gtR_20 {l : List Rf} (h : Rf20 l) (i : Nat) (hi : i < l.length) : (gtR l i).2.length = 20 := by
  refine h _ ?_
  unfold gtR
  rw [List.getD_eq_getElem?_getD, List.getElem?_eq_getElem hi]
  exact List.getElem_mem hi
theorem rrow {w : World} {ad : Addr} {l : List Rf} (h : Sl w (some ad) (rfc l)) (h20 : Rf20 l) (i : Nat) (hi : i < l.length) : Sl w (some (ad.add (i * 21))) (rcell (gtR l i)) := fun j v hj => by
  have hj21 : j < 21 := by
    have := (List.getElem?_eq_some_iff.1 hj).1
    rwa [rcell_len (gtR_20 h20 i hi)] at this
  rw [← rfc_at h20 i j hi hj21] at hj
  obtain ⟨ad', e, hc⟩ := h _ v hj
  injection e with e
  subst e
  exact ⟨_, rfl, by rw [Addr.add_add]; exact hc⟩
theorem rsl_some {w : World} {A : Option Addr} {l : List Rf} (h : Sl w A (rfc l)) (h20 : Rf20 l) (i : Nat) (hi : i < l.length) : ∃ ad, A = some ad := by
  have hl := rfc_len h20
  obtain ⟨ad, e, _⟩ := h 0 _ (List.getElem?_eq_getElem (by rw [hl]; omega))
  exact ⟨ad, e⟩
theorem addr0 (ad : Addr) : ad.add 0 = ad := by unfold Addr.add; split <;> simp_all
theorem rname {w : World} {ad : Addr} {r : Rf} (h : Sl w (some ad) (rcell r)) : w.cell? ad = some (.string (bstr r.1)) := by
  obtain ⟨ad', e, hc⟩ := h 0 _ rfl
  injection e with e
  subst e
  rwa [addr0] at hc
theorem rid {w : World} {ad : Addr} {r : Rf} (h : Sl w (some ad) (rcell r)) : Sl w (some (ad.add 1)) (bvs r.2) := fun j v hj => by
  obtain ⟨ad', e, hc⟩ := h (1 + j) v (by rw [Nat.add_comm]; exact hj)
  injection e with e
  subst e
  exact ⟨_, rfl, by rw [Addr.add_add]; exact hc⟩
/-- a value of one cell is loaded -/
theorem load_one {T : Nat} (hT : ∀ w, (isAgg T).run Tryd.prog w = .ok false w) {w : World} {ad : Addr} {v : Value} (h : w.cell? ad = some v) : (loadVar T ad).run Tryd.prog w = .ok v w := by
  simp [loadVar, Sem.run_bind, hT w, run_load, h]
/-- a ref is loaded -/
theorem load_ref {w : World} {ad : Addr} {r : Rf} (h20 : r.2.length = 20) (h : Sl w (some ad) (rcell r)) : (loadVar 47 ad).run Tryd.prog w = .ok (rfv r) w := by
  have hl : (loadCells ad (rcell r).length).run Tryd.prog w = .ok (rcell r).toArray w :=
    run_loadCells_list (P := Tryd.prog) w ad (rcell r) (fun j v hv => by obtain ⟨ad', e, hc⟩ := h j v hv; injection e with e; subst e; exact hc)
  rw [rcell_len h20] at hl
  have hagg : (isAgg 47).run Tryd.prog w = .ok true w := by kernel_rfl
  have hsz : (sizeOf 47).run Tryd.prog w = .ok 21 w := by kernel_rfl
  simp [loadVar, Sem.run_bind, hagg, hsz, hl]
theorem infoR {r : Rf} (h20 : r.2.length = 20) : (Tryd.prog.info? 47).map (·.size) = some (rcell r).toArray.size := by
  rw [show (rcell r).toArray.size = 21 by simp [rcell_len h20]]; kernel_rfl
theorem rone (r : Rf) : (rcell r).toArray.all (·.oneCell') = true := by
  rw [Array.all_eq_true]
  intro i h
  have : ∀ v ∈ rcell r, v.oneCell' = true := fun v hv => by
    rcases List.mem_cons.1 hv with e | e
    · subst e; rfl
    · exact bvs_one _ v e
  exact this _ (by simp)
def zrf : Array Value := (rcell ([], zs20)).toArray
theorem zeroR {r : Rf} (h20 : r.2.length = 20) : zrf.size = (rcell r).toArray.size := by
  rw [show (rcell r).toArray.size = 21 by simp [rcell_len h20]]; rfl
theorem rlit : (#[.string { data := #[] }, .int .u8 0, .int .u8 0, .int .u8 0, .int .u8 0, .int .u8 0, .int .u8 0, .int .u8 0, .int .u8 0, .int .u8 0, .int .u8 0, .int .u8 0, .int .u8 0, .int .u8 0, .int .u8 0, .int .u8 0, .int .u8 0, .int .u8 0, .int .u8 0, .int .u8 0, .int .u8 0] : Array Value) = zrf := rfl
theorem bless (a b : List UInt8) : Op.bytesLess a b = decide (a < b) := Go.Proofs.bytesLess_eq a b
theorem geq_run (a b : List UInt8) (q : Bool) (h : (!decide (a < b)) = q) (w : World) : (binOp .geq 9 (.string (bstr a)) (.string (bstr b))).run Tryd.prog w = .ok (.bool q) w := by
  rw [binOp_string_geq, Lib.toList_data, Lib.toList_data, bless]
  simp [h]
theorem right_any (l : List Rf) (h20 : Rf20 l) (hn : l.length ≤ 256) (hs : ∀ r ∈ l, r.1.length ≤ 1073741824) (A : Option Addr) (c : Nat) (w : World) (hg : GOk w) (hA : Sl w A (rfc l)) :
    Calls Tryd.prog 18 #[.slice A l.length c] w fun e w' => e = .returned (.bool (rightB l)) ∧ Below w.heap.size w w' := by
  obtain ⟨n, hnn⟩ : ∃ n, n = l.length := ⟨_, rfl⟩
  rw [← hnn]
  have hn2 : n ≤ 256 := by omega
  have HN := Lib.hid hnn; have HA := Lib.hid hA; have HG := Lib.hid hg; have H20 := Lib.hid h20; have HS := Lib.hid hs
  have HR := Lib.hid (rightB_iff l)
  clear hnn hA hg h20 hs hn
  go_enter Tryd.func18, Tryd.ntmps18
  go_wp2
  go_loopw [7] (fun t7 wr => ∃ i : Nat, t7 = .int .i64 (i : Int) ∧ i ≤ n ∧ Hid (rightN l i) ∧ Below w.heap.size w wr) (fun t7 _ => (n - intOf t7).toNat)
  case atStart => exact ⟨0, rfl, by omega, Lib.hid (fun j h => by omega), Below.refl _ _⟩
  case round =>
    obtain ⟨i, rfl, hi, hT, hbw⟩ := hrel
    by_cases hin : i < n
    · have hil : i < l.length := by rw [← HN.out]; exact hin
      obtain ⟨ad, rfl⟩ := rsl_some HA.out H20.out i hil
      have R := (rrow HA.out H20.out i hil).below hbw
      have r20 := gtR_20 H20.out i hil
      have rs : (gtR l i).1.length ≤ 1073741824 := HS.out _ (by
        unfold gtR
        rw [List.getD_eq_getElem?_getD, List.getElem?_eq_getElem hil]
        exact List.getElem_mem hil)
      obtain ⟨r, hr⟩ : ∃ r, r = gtR l i := ⟨_, rfl⟩
      rw [← hr] at R r20 rs
      have lr := load_ref r20 R
      have zi := Lib.hid (infoR r20)
      have zz := Lib.hid (zeroR r20)
      obtain ⟨r1, b1⟩ := new_set wr 47 zrf (rcell r).toArray
      obtain ⟨W1, hW1⟩ : ∃ W1, W1 = (wr.alloc (.cells zrf 47)).setRow wr.heap.size (rcell r).toArray := ⟨_, rfl⟩
      rw [← hW1] at r1 b1
      have HW1 := Lib.hid hW1
      have RR := Lib.hid hr
      clear hW1 R hr
      go_upto_region 4 with (first
        | (refine wpList_loadG 47 (.tmp 10) rfl (ad.add (i * 21)) rfl (rfv r) lr rfl ?_)
        | (refine wpList_store_row rfl 47 (.tmp 4) (.tmp 11) rfl wr.heap.size (rcell r).toArray rfl rfl 47 _ (heap_alloc_new _ _) zi.out zz.out (rone r) ?_))
      simp only [rlit, Act.put]
      rw [← HW1.out]
      have b01 := hbw.trans (b1.mono hbw.size)
      have hg1 : GOk W1 := HG.out.below b01
      have S1 : Sl W1 (some ⟨wr.heap.size, 0, none⟩) (rcell r) := Sl.of_block r1 (fun j v hj => by simpa using hj)
      have l1 : ∀ w', Below W1.heap.size W1 w' → (loadVar 9 ⟨wr.heap.size, 0, none⟩).run Tryd.prog w' = .ok (.string (bstr r.1)) w' := fun w' h => load_one (fun w => by kernel_rfl) (rname (S1.below h))
      have c1 : ∀ w', Below W1.heap.size W1 w' → Calls Tryd.prog 13 #[.string (bstr r.1)] w' fun e w'' => e = .returned (.bool (nameB r.1)) ∧ Below W1.heap.size W1 w'' := fun w' h => by
        have := quietB h (name_any (bstr r.1) (by rw [show (bstr r.1).size = r.1.length by show r.1.toArray.size = _; simp]; exact rs) w' (hg1.below h))
        rwa [show (bstr r.1).data.toList = r.1 by simp] at this
      have hgt : gtN l i = r.1 := by unfold gtN; rw [RR.out]
      have hno : nameB r.1 = false ∨ (0 < i ∧ ¬ gtN l (i - 1) < r.1) → rightB l = false := fun h => by
        cases hq : rightB l with
        | false => rfl
        | true =>
          have := HR.out.1 hq i hil
          rw [hgt] at this
          rcases h with h | ⟨h, h'⟩
          · rw [h] at this; exact absurd this.1 (by decide)
          · exact absurd (this.2 h) h'
      have hyes : nameB r.1 = true → (0 < i → gtN l (i - 1) < r.1) → rightN l (i + 1) := fun h h' j hj => by
        by_cases e : j = i
        · subst e; rw [hgt]; exact ⟨h, h'⟩
        · exact hT.out j (by omega)
      have B01 := Lib.hid b01; have L1 := Lib.hid l1; have HNO := Lib.hid hno; have HYES := Lib.hid hyes
      clear hgt hno hyes l1 lr b1 r1 b01 hg1 HW1
      cases hq : nameB r.1 with
      | false =>
        rw [hq] at c1
        have HF := Lib.hid (HNO.out (.inl hq))
        clear hq HNO HYES S1
        go_wp2_with fail
        refine wp_region_quietC (C := fun w' => Below W1.heap.size W1 w') (Below.refl _ _).drew (by kernel_rfl) (by kernel_rfl) ?_
        go_big_quiet_step ((intro hb; rfl))
        refine wpQuiet_load 9 (.tmp 12) rfl ⟨wr.heap.size, 0, none⟩ rfl (.string (bstr r.1)) L1.out _ rfl rfl ?_
        simp only [List.set_cons_succ, List.set_cons_zero]
        go_big_quiet_step ((intro hb; (with_reducible exact c1 _ hb)))
        go_big_quiet_step ((intro hb; rfl))
        with_reducible refine wpQuiet_pure 16 rfl (by kernel_rfl) (.bool true) (fun w => by kernel_rfl) ?_
        simp only [List.set_cons_succ, List.set_cons_zero]
        iterate 13 (with_reducible refine wpQuiet_skip _ rfl (by kernel_rfl) ?_; simp only [List.set_cons_succ, List.set_cons_zero])
        with_reducible refine wpQuiet_pure 30 rfl (by kernel_rfl) (.bool true) (fun w => by kernel_rfl) ?_
        simp only [List.set_cons_succ, List.set_cons_zero]
        refine wpQuiet_nil ?_
        intro w' hw'
        go_wp2
        go_ret
        exact ⟨by rw [HF.out]; rfl, B01.out.trans (hw'.mono B01.out.size)⟩
      | true =>
        rw [hq] at c1
        by_cases h0 : 0 < i
        · obtain ⟨k, hk⟩ : ∃ k, i = k + 1 := ⟨i - 1, by omega⟩
          have hkl : k < l.length := by omega
          have K := (rrow HA.out H20.out k hkl).below B01.out
          have hgk : gtN l (i - 1) = (gtR l k).1 := by rw [hk]; rfl
          obtain ⟨y, hy⟩ : ∃ y, y = gtR l k := ⟨_, rfl⟩
          rw [← hy] at K hgk
          have l2 : ∀ w', Below W1.heap.size W1 w' → (loadVar 9 (ad.add (k * 21))).run Tryd.prog w' = .ok (.string (bstr y.1)) w' := fun w' h => load_one (fun w => by kernel_rfl) (rname (K.below h))
          have L2 := Lib.hid l2
          have hwk : IntKind.i64.wrap ((i : Int) - 1) = (k : Int) := by rw [IntWalk.i64_in _ (by omega)]; omega
          have hkn : (k : Int) < (n : Int) := by omega
          have hd0 : decide (0 < i) = true := decide_eq_true (by omega)
          have hk1 : k + 1 ≤ i := by omega
          by_cases hlt : y.1 < r.1
          · have hls : Op.bytesLess y.1 r.1 = true := by rw [bless]; exact decide_eq_true hlt
            have HF := Lib.hid (HYES.out hq (fun _ => by rw [hgk]; exact hlt))
            clear hq HNO HYES S1 K l2 hy hgk hlt h0 hk
            go_wp2_with fail
            refine wp_region_quietC (C := fun w' => Below W1.heap.size W1 w') (Below.refl _ _).drew (by kernel_rfl) (by kernel_rfl) ?_
            repeat (first
              | (refine wpQuiet_load 9 (.tmp 12) rfl ⟨wr.heap.size, 0, none⟩ rfl (.string (bstr r.1)) L1.out _ rfl rfl ?_; simp only [List.set_cons_succ, List.set_cons_zero])
              | (refine wpQuiet_load 9 (.tmp 24) rfl (ad.add (k * 21)) rfl (.string (bstr y.1)) L2.out _ rfl rfl ?_; simp only [List.set_cons_succ, List.set_cons_zero])
              | (refine wpQuiet_load 9 (.tmp 26) rfl ⟨wr.heap.size, 0, none⟩ rfl (.string (bstr r.1)) L1.out _ rfl rfl ?_; simp only [List.set_cons_succ, List.set_cons_zero])
              | go_big_quiet_step ((intro hb; first | (with_reducible exact c1 _ hb) | rfl)))
            refine wpQuiet_nil ?_
            intro w' hw'
            go_wp2
            go_roundw
            case rel => exact ⟨i + 1, by simp, by omega, HF, B01.out.trans (hw'.mono B01.out.size)⟩
            case measure => simp only [intOf]; omega
          · have hls : Op.bytesLess y.1 r.1 = false := by rw [bless]; exact decide_eq_false hlt
            have HF := Lib.hid (HNO.out (.inr ⟨h0, by rw [hgk]; exact hlt⟩))
            clear hq HNO HYES S1 K l2 hy hgk hlt h0 hk
            go_wp2_with fail
            refine wp_region_quietC (C := fun w' => Below W1.heap.size W1 w') (Below.refl _ _).drew (by kernel_rfl) (by kernel_rfl) ?_
            repeat (first
              | (refine wpQuiet_load 9 (.tmp 12) rfl ⟨wr.heap.size, 0, none⟩ rfl (.string (bstr r.1)) L1.out _ rfl rfl ?_; simp only [List.set_cons_succ, List.set_cons_zero])
              | (refine wpQuiet_load 9 (.tmp 24) rfl (ad.add (k * 21)) rfl (.string (bstr y.1)) L2.out _ rfl rfl ?_; simp only [List.set_cons_succ, List.set_cons_zero])
              | (refine wpQuiet_load 9 (.tmp 26) rfl ⟨wr.heap.size, 0, none⟩ rfl (.string (bstr r.1)) L1.out _ rfl rfl ?_; simp only [List.set_cons_succ, List.set_cons_zero])
              | go_big_quiet_step ((intro hb; first | (with_reducible exact c1 _ hb) | rfl)))
            refine wpQuiet_nil ?_
            intro w' hw'
            go_wp2
            go_ret
            exact ⟨by rw [HF.out]; rfl, B01.out.trans (hw'.mono B01.out.size)⟩
        · obtain rfl : i = 0 := by omega
          have HF := Lib.hid (HYES.out hq (fun h => absurd h h0))
          clear hq HNO HYES S1 h0
          go_wp2_with fail
          refine wp_region_quietC (C := fun w' => Below W1.heap.size W1 w') (Below.refl _ _).drew (by kernel_rfl) (by kernel_rfl) ?_
          go_big_quiet_step ((intro hb; rfl))
          refine wpQuiet_load 9 (.tmp 12) rfl ⟨wr.heap.size, 0, none⟩ rfl (.string (bstr r.1)) L1.out _ rfl rfl ?_
          simp only [List.set_cons_succ, List.set_cons_zero]
          go_big_quiet_step ((intro hb; (with_reducible exact c1 _ hb)))
          iterate 4 (go_big_quiet_step ((intro hb; rfl)))
          with_reducible refine wpQuiet_pure 19 rfl (by kernel_rfl) (.bool false) (fun w => by kernel_rfl) ?_
          simp only [List.set_cons_succ, List.set_cons_zero]
          iterate 9 (with_reducible refine wpQuiet_skip _ rfl (by kernel_rfl) ?_; simp only [List.set_cons_succ, List.set_cons_zero])
          with_reducible refine wpQuiet_pure 29 rfl (by kernel_rfl) (.bool false) (fun w => by kernel_rfl) ?_
          simp only [List.set_cons_succ, List.set_cons_zero]
          with_reducible refine wpQuiet_pure 30 rfl (by kernel_rfl) (.bool false) (fun w => by kernel_rfl) ?_
          simp only [List.set_cons_succ, List.set_cons_zero]
          refine wpQuiet_nil ?_
          intro w' hw'
          go_wp2
          go_roundw
          case rel => exact ⟨1, rfl, by omega, HF, B01.out.trans (hw'.mono B01.out.size)⟩
          case measure => simp only [intOf]; omega
    · obtain rfl : i = n := by omega
      have h : rightB l = true := HR.out.2 (by rw [← HN.out]; exact hT.out)
      have HY := Lib.hid h
      clear h
      go_wp2
      go_ret
      exact ⟨by rw [HY.out]; rfl, hbw⟩
end Go.Proofs.YtmfhlhjnfaiegaaDoor
