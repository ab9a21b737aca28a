/- The reference's Put: a name into a rising row. Conditions: twenty bytes each, fewer than 255 names. -/
import Derived.Test.YtjiiploleinobaaRefP
import Derived.Test.YtjiiploleinobaaRefF
namespace Go.Proofs.Ytjiiploleinobaa
open Go.RowKit
set_option maxRecDepth 100000
set_option maxHeartbeats 4000000
set_option linter.unusedVariables false
theorem ready_app38 {md : Region.Mode} {ops : Array Oper} {Q : Exit → Act → World → Prop} {fuel : Nat} {listed : Array Bool} {a : Act} {w : World} {i : Nat} {o : Oper} {rs : List Nat} (ho : ops[i]? = some o) (hgd : o.guard = none)
    (s x : Operand) (hop : o.op = .call { callee := .builtin .append, args := #[s, x], argTypes := #[38, 38] })
    (B : Nat) (v : Value) (n : Nat) (xs : List Value) (hs : a.eval s = v) (hown : Win w B 22 20 v n xs) (A : Option Addr) (m c : Nat) (news : List Value) (hx : a.eval x = .slice A m c) (hl : news.length = m * 20) (hA : Sl w A news) (h1 : ∀ u ∈ news, u.oneCell' = true) (hbd : n + m ≤ 1000) (hB : B ≤ w.heap.size)
    (hrs : AllReady Try.prog md ops Q fuel listed a w rs)
    (h : ∀ v' w', Win w' B 22 20 v' (n + m) (xs ++ news) → Kp (fun k => v.ownBlock = some k) w w' → wpAny Try.prog md ops Q fuel (listed.setIfInBounds i true) (a.put o.dst v') w') : AllReady Try.prog md ops Q fuel listed a w (i :: rs) := by
  obtain ⟨v', w', hrun, h1', h2, h3⟩ := run_appW (P := Try.prog) B 38 38 o.type 22 (idv zs20) 20 20 Try.underlying38 Try.info22 (by show (bvs zs20).toArray.size = 20; simp [zs20_len]) (by decide) v n xs hown (.slice A m c) m news (srcOf Try.underlying38 (by decide) (by omega) hA h1) (by omega) (by unfold maxLen; omega) hB
  refine ready_val v' ho hgd ?_ hrs (h v' w' h1' h2)
  unfold execOp
  simp [hop, resolve, invoke, builtin, hs, hx, hrun, Result.andThen]
theorem own_empty {B : Nat} {X : World} (hB : B ≤ X.heap.size) : Win (X.alloc (.cells #[] 22)) B 22 20 (.slice (some ⟨X.heap.size, 0, none⟩) 0 0) 0 [] :=
  ⟨by simp, .inr ⟨X.heap.size, 0, 0, #[], rfl, hB, heap_alloc_new _ _, by omega, by unfold maxLen; omega, by simp, by simp⟩⟩
theorem sl_one {X : World} (id : List UInt8) : Sl (X.alloc (.cells (bvs id).toArray 22)) (some ⟨X.heap.size, 0, none⟩) (bvs id) :=
  Sl.of_block (heap_alloc_new _ _) (fun j v hj => by simpa using hj)
theorem bl_self (X : World) (o : Obj) : Below X.heap.size X (X.alloc o) := (Below.refl _ _).alloc (Nat.le_refl _) _
theorem bl_alloc {a X : World} (h : Below a.heap.size a X) (o : Obj) : Below a.heap.size a (X.alloc o) := h.trans ((bl_self X o).mono h.size)
theorem bl_kp {a X Y : World} {v : Value} (h : Below a.heap.size a X) (p : Kp (fun k => v.ownBlock = some k) X Y) (hb : ∀ g, v.ownBlock = some g → a.heap.size ≤ g ∧ g < X.heap.size) : Below a.heap.size a Y :=
  h.trans (p.toBelow h.size (fun k hk e => by have := (hb k e).1; omega))
def putI (l : List (List UInt8)) (id : List UInt8) : List (List UInt8) := if fis l id = true then l else l.take (fk l id) ++ [id] ++ l.drop (fk l id)
theorem put_any (l : List (List UInt8)) (h20 : All20 l) (hn : l.length < 255) (A : Option Addr) (c : Nat) (hc : l.length ≤ c) (id : List UInt8) (hid : id.length = 20) (w : World) (hA : Sl w A (idc l)) :
    Calls Try.prog 34 #[.slice A l.length c, idv id] w fun e w' => ∃ A' c', e = .returned (.slice A' (putI l id).length c') ∧ (putI l id).length ≤ c' ∧ Sl w' A' (idc (putI l id)) ∧ Below w.heap.size w w' := by
  have hle := fk_le l id
  have hcn : ¬ (c = fk l id ∧ False) := fun h => h.2
  obtain ⟨W0, hW0⟩ : ∃ W0, W0 = w.alloc (.cells (bvs id).toArray 22) := ⟨_, rfl⟩
  have hb0 : Below w.heap.size w W0 := by rw [hW0]; exact (Below.refl _ _).alloc (Nat.le_refl _) _
  have I0 : Sl W0 (some ⟨w.heap.size, 0, none⟩) (bvs id) := by
    rw [hW0]
    exact Sl.of_block (heap_alloc_new _ _) (fun j v hj => by simpa using hj)
  have kf := reffind_any l h20 (by omega) A c id hid W0 (hA.below hb0)
  have li := load_id22 id hid _ _ I0
  have HW0 := Lib.hid hW0; have HI0 := Lib.hid I0; have Hb0 := Lib.hid hb0; have HA0 := Lib.hid (hA.below hb0)
  have H20 := Lib.hid h20; have HID := Lib.hid hid
  obtain ⟨r, hr⟩ : ∃ r, r = fis l id := ⟨_, rfl⟩
  obtain ⟨k, hk⟩ : ∃ k, k = fk l id := ⟨_, rfl⟩
  obtain ⟨n, hnn⟩ : ∃ n, n = l.length := ⟨_, rfl⟩
  rw [← hr, ← hk] at kf
  rw [← hnn] at kf hle hc hn ⊢
  rw [← hk] at hle
  have HR := Lib.hid hr; have HK := Lib.hid hk; have HN := Lib.hid hnn
  clear hW0 I0 hb0 hA h20 hid hr hk hnn hcn
  go_enter Try.func34, Try.ntmps34
  go_upto_region 1 with (fail)
  rw [← HW0.out]
  go_upto_region 2 with (first
    | (refine wpList_loadG 22 (.tmp 3) rfl ⟨w.heap.size, 0, none⟩ rfl (idv id) li rfl ?_)
    | (go_at_call 18; (with_reducible refine kf.mono ?_); rintro e w1 ⟨rfl, hb1⟩))
  cases r with
  | true =>
    have HA1 := Lib.hid (HA0.out.below hb1)
    have e : putI l id = l := by unfold putI; rw [if_pos HR.out.symm]
    have HE := Lib.hid e
    clear e li
    go_wp2
    go_ret
    exact ⟨A, c, by rw [HE.out, ← HN.out]; rfl, by rw [HE.out, ← HN.out]; exact hc, by rw [HE.out]; exact HA1.out, Hb0.out.trans (hb1.mono Hb0.out.size)⟩
  | false =>
    clear li
    have hkc : k ≤ c := by omega
    go_upto_region 4 with (fail)
    have tk : l.take k = (l.take k) := rfl
    have hlt : (idc (l.take k)).length = k * 20 := by
      rw [idc_len _ (fun x hx => H20.out x (List.mem_of_mem_take hx)), List.length_take, ← HN.out, Nat.min_eq_left hle]
    have hat : Sl W0 A (idc (l.take k)) := fun j v hj => HA0.out j v (by
      have e : idc l = idc (l.take k) ++ idc (l.drop k) := by unfold idc; rw [← List.flatMap_append, List.take_append_drop]
      rw [e, List.getElem?_append_left (List.getElem?_eq_some_iff.1 hj).1]
      exact hj)
    have HLT := Lib.hid hlt; have HAT := Lib.hid hat
    clear hlt hat tk
    go_cut [7] from 8 (fun t7 wx => Win wx W0.heap.size 22 20 t7 (k + 1) (idc (l.take k) ++ bvs id) ∧ Below W0.heap.size W0 wx)
    case first =>
      refine wp_region_any (by kernel_rfl) ?_
      change wpAny _ _ _ _ _ _ _ (World.drew _)
      apply wpAny_take (i := 1)
      case hi => (simp only [List.getElem?_toArray, List.getElem?_cons_succ, List.getElem?_cons_zero]; rfl)
      case hs => decide +kernel
      case hf => decide +kernel
      case hr => decide +kernel
      case hQ => exact fun _ _ _ h => h
      case hy => exact Or.inl ⟨by rfl, by intro w; go_simp; (try with_reducible rfl)⟩
      (try simp only [Act.put, List.setIfInBounds_toArray, List.set_cons_succ, List.set_cons_zero])
      apply wpAny_take (i := 2)
      case hi => (simp only [List.getElem?_toArray, List.getElem?_cons_succ, List.getElem?_cons_zero]; rfl)
      case hs => decide +kernel
      case hf => decide +kernel
      case hr => decide +kernel
      case hQ => exact fun _ _ _ h => h
      case hy => exact Or.inl ⟨by rfl, by intro w; go_simp; (try with_reducible rfl)⟩
      (try simp only [Act.put, List.setIfInBounds_toArray, List.set_cons_succ, List.set_cons_zero])
      apply wpAny_take (i := 3)
      case hi => (simp only [List.getElem?_toArray, List.getElem?_cons_succ, List.getElem?_cons_zero]; rfl)
      case hs => decide +kernel
      case hf => decide +kernel
      case hr => decide +kernel
      case hQ => exact fun _ _ _ h => h
      case hy => exact Or.inl ⟨by rfl, by intro w; go_simp; (try with_reducible rfl)⟩
      (try simp only [Act.put, List.setIfInBounds_toArray, List.set_cons_succ, List.set_cons_zero])
      have b0 := hb1.drew
      refine wpAny_ready (rs := [0, 5]) (by decide +kernel) (by simp) ?_
      apply ready_val (v := .slice (some ⟨(w1.drew).heap.size, 0, none⟩) 0 0) (w' := (w1.drew).alloc (.cells #[] 22))
      case ho => (simp only [List.getElem?_toArray, List.getElem?_cons_succ, List.getElem?_cons_zero]; rfl)
      case hgd => rfl
      case hrun => exact run_empty38 rfl
      case h =>
        have b1 := bl_alloc b0 (.cells #[] 22)
        have o1 := own_empty (B := W0.heap.size) (X := w1.drew) b0.size
        (try simp only [Act.put, List.setIfInBounds_toArray, List.set_cons_succ, List.set_cons_zero])
        refine wpAny_ready (rs := [4, 5]) (by decide +kernel) (by simp) ?_
        apply ready_app38 (s := .tmp 16) (x := .tmp 19) (B := W0.heap.size) (hown := o1) (A := A) (m := k) (c := c) (news := idc (l.take k)) (hl := HLT.out) (hA := HAT.out.below b1) (h1 := idc_one _) (hbd := by omega) (hB := b1.size)
        case ho => (simp only [List.getElem?_toArray, List.getElem?_cons_succ, List.getElem?_cons_zero]; rfl)
        case hgd => rfl
        case hop => rfl
        case hs => rfl
        case hx => rfl
        case h =>
          intro v2 x2 q2 p2
          have b2 := bl_kp b1 p2 (Win.block o1)
          (try simp only [Act.put, List.setIfInBounds_toArray, List.set_cons_succ, List.set_cons_zero])
          refine wpAny_ready (rs := [5]) (by decide +kernel) (by simp) ?_
          apply ready_load (ty := 22) (x := .tmp 3) (ad := ⟨w.heap.size, 0, none⟩) (v := idv id) (hl := load_id22 id HID.out _ _ (HI0.out.below b2))
          case ho => (simp only [List.getElem?_toArray, List.getElem?_cons_succ, List.getElem?_cons_zero]; rfl)
          case hgd => rfl
          case hop => rfl
          case hx => rfl
          case hs => exact AllReady.nil
          (try simp only [Act.put, List.setIfInBounds_toArray, List.set_cons_succ, List.set_cons_zero])
          refine wpAny_ready (rs := [6]) (by decide +kernel) (by simp) ?_
          apply ready_val (v := .slice (some ⟨(x2).heap.size, 0, none⟩) 1 1) (w' := (x2).alloc (.cells (bvs id).toArray 22))
          case ho => (simp only [List.getElem?_toArray, List.getElem?_cons_succ, List.getElem?_cons_zero]; rfl)
          case hgd => rfl
          case hrun => exact run_one38 21 rfl id HID.out rfl
          case hs => exact AllReady.nil
          have b4 := bl_alloc b2 (.cells (bvs id).toArray 22)
          have s4 := sl_one (X := x2) id
          have q4 := Win.below q2 (bl_self (x2) (.cells (bvs id).toArray 22))
          (try simp only [Act.put, List.setIfInBounds_toArray, List.set_cons_succ, List.set_cons_zero])
          refine wpAny_ready (rs := [7]) (by decide +kernel) (by simp) ?_
          apply ready_app38 (s := .tmp 20) (x := .tmp 22) (B := W0.heap.size) (hown := q4) (m := 1) (c := 1) (news := bvs id) (hl := by rw [bvs_length, HID.out]) (hA := s4) (h1 := bvs_one id) (hbd := by omega) (hB := b4.size)
          case ho => (simp only [List.getElem?_toArray, List.getElem?_cons_succ, List.getElem?_cons_zero]; rfl)
          case hgd => rfl
          case hop => rfl
          case hs => rfl
          case hx => rfl
          case hrs => exact AllReady.nil
          intro v5 x5 q5 p5
          have b5 := bl_kp b4 p5 (Win.block q4)
          (try simp only [Act.put, List.setIfInBounds_toArray, List.set_cons_succ, List.set_cons_zero])
          apply wpAny_take (i := 8)
          case hi => (simp only [List.getElem?_toArray, List.getElem?_cons_succ, List.getElem?_cons_zero]; rfl)
          case hs => decide +kernel
          case hf => decide +kernel
          case hr => decide +kernel
          case hQ => exact fun _ _ _ h => h
          case hy => exact Or.inl ⟨by rfl, by intro w; go_simp; (try with_reducible rfl)⟩
          (try simp only [Act.put, List.setIfInBounds_toArray, List.set_cons_succ, List.set_cons_zero])
          refine wpAny_done (by kernel_rfl) ?_ _
          go_wp2
          go_meet
          case rel => exact ⟨by simpa using q5, b5⟩
        apply ready_load (ty := 22) (x := .tmp 3) (ad := ⟨w.heap.size, 0, none⟩) (v := idv id) (hl := load_id22 id HID.out _ _ (HI0.out.below b1))
        case ho => (simp only [List.getElem?_toArray, List.getElem?_cons_succ, List.getElem?_cons_zero]; rfl)
        case hgd => rfl
        case hop => rfl
        case hx => rfl
        case hs => exact AllReady.nil
        (try simp only [Act.put, List.setIfInBounds_toArray, List.set_cons_succ, List.set_cons_zero])
        refine wpAny_ready (rs := [4, 6]) (by decide +kernel) (by simp) ?_
        apply ready_app38 (s := .tmp 16) (x := .tmp 19) (B := W0.heap.size) (hown := o1) (A := A) (m := k) (c := c) (news := idc (l.take k)) (hl := HLT.out) (hA := HAT.out.below b1) (h1 := idc_one _) (hbd := by omega) (hB := b1.size)
        case ho => (simp only [List.getElem?_toArray, List.getElem?_cons_succ, List.getElem?_cons_zero]; rfl)
        case hgd => rfl
        case hop => rfl
        case hs => rfl
        case hx => rfl
        case h =>
          intro v7 x7 q7 p7
          have b7 := bl_kp b1 p7 (Win.block o1)
          (try simp only [Act.put, List.setIfInBounds_toArray, List.set_cons_succ, List.set_cons_zero])
          refine wpAny_ready (rs := [6]) (by decide +kernel) (by simp) ?_
          apply ready_val (v := .slice (some ⟨(x7).heap.size, 0, none⟩) 1 1) (w' := (x7).alloc (.cells (bvs id).toArray 22))
          case ho => (simp only [List.getElem?_toArray, List.getElem?_cons_succ, List.getElem?_cons_zero]; rfl)
          case hgd => rfl
          case hrun => exact run_one38 21 rfl id HID.out rfl
          case hs => exact AllReady.nil
          have b8 := bl_alloc b7 (.cells (bvs id).toArray 22)
          have s8 := sl_one (X := x7) id
          have q8 := Win.below q7 (bl_self (x7) (.cells (bvs id).toArray 22))
          (try simp only [Act.put, List.setIfInBounds_toArray, List.set_cons_succ, List.set_cons_zero])
          refine wpAny_ready (rs := [7]) (by decide +kernel) (by simp) ?_
          apply ready_app38 (s := .tmp 20) (x := .tmp 22) (B := W0.heap.size) (hown := q8) (m := 1) (c := 1) (news := bvs id) (hl := by rw [bvs_length, HID.out]) (hA := s8) (h1 := bvs_one id) (hbd := by omega) (hB := b8.size)
          case ho => (simp only [List.getElem?_toArray, List.getElem?_cons_succ, List.getElem?_cons_zero]; rfl)
          case hgd => rfl
          case hop => rfl
          case hs => rfl
          case hx => rfl
          case hrs => exact AllReady.nil
          intro v9 x9 q9 p9
          have b9 := bl_kp b8 p9 (Win.block q8)
          (try simp only [Act.put, List.setIfInBounds_toArray, List.set_cons_succ, List.set_cons_zero])
          apply wpAny_take (i := 8)
          case hi => (simp only [List.getElem?_toArray, List.getElem?_cons_succ, List.getElem?_cons_zero]; rfl)
          case hs => decide +kernel
          case hf => decide +kernel
          case hr => decide +kernel
          case hQ => exact fun _ _ _ h => h
          case hy => exact Or.inl ⟨by rfl, by intro w; go_simp; (try with_reducible rfl)⟩
          (try simp only [Act.put, List.setIfInBounds_toArray, List.set_cons_succ, List.set_cons_zero])
          refine wpAny_done (by kernel_rfl) ?_ _
          go_wp2
          go_meet
          case rel => exact ⟨by simpa using q9, b9⟩
        apply ready_val (v := .slice (some ⟨((w1.drew).alloc (.cells #[] 22)).heap.size, 0, none⟩) 1 1) (w' := ((w1.drew).alloc (.cells #[] 22)).alloc (.cells (bvs id).toArray 22))
        case ho => (simp only [List.getElem?_toArray, List.getElem?_cons_succ, List.getElem?_cons_zero]; rfl)
        case hgd => rfl
        case hrun => exact run_one38 21 rfl id HID.out rfl
        case hs => exact AllReady.nil
        have b10 := bl_alloc b1 (.cells (bvs id).toArray 22)
        have s10 := sl_one (X := (w1.drew).alloc (.cells #[] 22)) id
        have o10 := Win.below o1 (bl_self ((w1.drew).alloc (.cells #[] 22)) (.cells (bvs id).toArray 22))
        (try simp only [Act.put, List.setIfInBounds_toArray, List.set_cons_succ, List.set_cons_zero])
        refine wpAny_ready (rs := [4]) (by decide +kernel) (by simp) ?_
        apply ready_app38 (s := .tmp 16) (x := .tmp 19) (B := W0.heap.size) (hown := o10) (A := A) (m := k) (c := c) (news := idc (l.take k)) (hl := HLT.out) (hA := HAT.out.below b10) (h1 := idc_one _) (hbd := by omega) (hB := b10.size)
        case ho => (simp only [List.getElem?_toArray, List.getElem?_cons_succ, List.getElem?_cons_zero]; rfl)
        case hgd => rfl
        case hop => rfl
        case hs => rfl
        case hx => rfl
        case hrs => exact AllReady.nil
        intro v11 x11 q11 p11
        have b11 := bl_kp b10 p11 (Win.block o10)
        have s11 := Sl.kp s10 p11 (fun ad e h => by injection e with e; subst e; simp [Value.ownBlock] at h)
        (try simp only [Act.put, List.setIfInBounds_toArray, List.set_cons_succ, List.set_cons_zero])
        refine wpAny_ready (rs := [7]) (by decide +kernel) (by simp) ?_
        apply ready_app38 (s := .tmp 20) (x := .tmp 22) (B := W0.heap.size) (hown := q11) (m := 1) (c := 1) (news := bvs id) (hl := by rw [bvs_length, HID.out]) (hA := s11) (h1 := bvs_one id) (hbd := by omega) (hB := b11.size)
        case ho => (simp only [List.getElem?_toArray, List.getElem?_cons_succ, List.getElem?_cons_zero]; rfl)
        case hgd => rfl
        case hop => rfl
        case hs => rfl
        case hx => rfl
        case hrs => exact AllReady.nil
        intro v12 x12 q12 p12
        have b12 := bl_kp b11 p12 (Win.block q11)
        (try simp only [Act.put, List.setIfInBounds_toArray, List.set_cons_succ, List.set_cons_zero])
        apply wpAny_take (i := 8)
        case hi => (simp only [List.getElem?_toArray, List.getElem?_cons_succ, List.getElem?_cons_zero]; rfl)
        case hs => decide +kernel
        case hf => decide +kernel
        case hr => decide +kernel
        case hQ => exact fun _ _ _ h => h
        case hy => exact Or.inl ⟨by rfl, by intro w; go_simp; (try with_reducible rfl)⟩
        (try simp only [Act.put, List.setIfInBounds_toArray, List.set_cons_succ, List.set_cons_zero])
        refine wpAny_done (by kernel_rfl) ?_ _
        go_wp2
        go_meet
        case rel => exact ⟨by simpa using q12, b12⟩
      apply ready_load (ty := 22) (x := .tmp 3) (ad := ⟨w.heap.size, 0, none⟩) (v := idv id) (hl := load_id22 id HID.out _ _ (HI0.out.below b0))
      case ho => (simp only [List.getElem?_toArray, List.getElem?_cons_succ, List.getElem?_cons_zero]; rfl)
      case hgd => rfl
      case hop => rfl
      case hx => rfl
      case hs => exact AllReady.nil
      (try simp only [Act.put, List.setIfInBounds_toArray, List.set_cons_succ, List.set_cons_zero])
      refine wpAny_ready (rs := [0, 6]) (by decide +kernel) (by simp) ?_
      apply ready_val (v := .slice (some ⟨(w1.drew).heap.size, 0, none⟩) 0 0) (w' := (w1.drew).alloc (.cells #[] 22))
      case ho => (simp only [List.getElem?_toArray, List.getElem?_cons_succ, List.getElem?_cons_zero]; rfl)
      case hgd => rfl
      case hrun => exact run_empty38 rfl
      case h =>
        have b14 := bl_alloc b0 (.cells #[] 22)
        have o14 := own_empty (B := W0.heap.size) (X := w1.drew) b0.size
        (try simp only [Act.put, List.setIfInBounds_toArray, List.set_cons_succ, List.set_cons_zero])
        refine wpAny_ready (rs := [4, 6]) (by decide +kernel) (by simp) ?_
        apply ready_app38 (s := .tmp 16) (x := .tmp 19) (B := W0.heap.size) (hown := o14) (A := A) (m := k) (c := c) (news := idc (l.take k)) (hl := HLT.out) (hA := HAT.out.below b14) (h1 := idc_one _) (hbd := by omega) (hB := b14.size)
        case ho => (simp only [List.getElem?_toArray, List.getElem?_cons_succ, List.getElem?_cons_zero]; rfl)
        case hgd => rfl
        case hop => rfl
        case hs => rfl
        case hx => rfl
        case h =>
          intro v15 x15 q15 p15
          have b15 := bl_kp b14 p15 (Win.block o14)
          (try simp only [Act.put, List.setIfInBounds_toArray, List.set_cons_succ, List.set_cons_zero])
          refine wpAny_ready (rs := [6]) (by decide +kernel) (by simp) ?_
          apply ready_val (v := .slice (some ⟨(x15).heap.size, 0, none⟩) 1 1) (w' := (x15).alloc (.cells (bvs id).toArray 22))
          case ho => (simp only [List.getElem?_toArray, List.getElem?_cons_succ, List.getElem?_cons_zero]; rfl)
          case hgd => rfl
          case hrun => exact run_one38 21 rfl id HID.out rfl
          case hs => exact AllReady.nil
          have b16 := bl_alloc b15 (.cells (bvs id).toArray 22)
          have s16 := sl_one (X := x15) id
          have q16 := Win.below q15 (bl_self (x15) (.cells (bvs id).toArray 22))
          (try simp only [Act.put, List.setIfInBounds_toArray, List.set_cons_succ, List.set_cons_zero])
          refine wpAny_ready (rs := [7]) (by decide +kernel) (by simp) ?_
          apply ready_app38 (s := .tmp 20) (x := .tmp 22) (B := W0.heap.size) (hown := q16) (m := 1) (c := 1) (news := bvs id) (hl := by rw [bvs_length, HID.out]) (hA := s16) (h1 := bvs_one id) (hbd := by omega) (hB := b16.size)
          case ho => (simp only [List.getElem?_toArray, List.getElem?_cons_succ, List.getElem?_cons_zero]; rfl)
          case hgd => rfl
          case hop => rfl
          case hs => rfl
          case hx => rfl
          case hrs => exact AllReady.nil
          intro v17 x17 q17 p17
          have b17 := bl_kp b16 p17 (Win.block q16)
          (try simp only [Act.put, List.setIfInBounds_toArray, List.set_cons_succ, List.set_cons_zero])
          apply wpAny_take (i := 8)
          case hi => (simp only [List.getElem?_toArray, List.getElem?_cons_succ, List.getElem?_cons_zero]; rfl)
          case hs => decide +kernel
          case hf => decide +kernel
          case hr => decide +kernel
          case hQ => exact fun _ _ _ h => h
          case hy => exact Or.inl ⟨by rfl, by intro w; go_simp; (try with_reducible rfl)⟩
          (try simp only [Act.put, List.setIfInBounds_toArray, List.set_cons_succ, List.set_cons_zero])
          refine wpAny_done (by kernel_rfl) ?_ _
          go_wp2
          go_meet
          case rel => exact ⟨by simpa using q17, b17⟩
        apply ready_val (v := .slice (some ⟨((w1.drew).alloc (.cells #[] 22)).heap.size, 0, none⟩) 1 1) (w' := ((w1.drew).alloc (.cells #[] 22)).alloc (.cells (bvs id).toArray 22))
        case ho => (simp only [List.getElem?_toArray, List.getElem?_cons_succ, List.getElem?_cons_zero]; rfl)
        case hgd => rfl
        case hrun => exact run_one38 21 rfl id HID.out rfl
        case hs => exact AllReady.nil
        have b18 := bl_alloc b14 (.cells (bvs id).toArray 22)
        have s18 := sl_one (X := (w1.drew).alloc (.cells #[] 22)) id
        have o18 := Win.below o14 (bl_self ((w1.drew).alloc (.cells #[] 22)) (.cells (bvs id).toArray 22))
        (try simp only [Act.put, List.setIfInBounds_toArray, List.set_cons_succ, List.set_cons_zero])
        refine wpAny_ready (rs := [4]) (by decide +kernel) (by simp) ?_
        apply ready_app38 (s := .tmp 16) (x := .tmp 19) (B := W0.heap.size) (hown := o18) (A := A) (m := k) (c := c) (news := idc (l.take k)) (hl := HLT.out) (hA := HAT.out.below b18) (h1 := idc_one _) (hbd := by omega) (hB := b18.size)
        case ho => (simp only [List.getElem?_toArray, List.getElem?_cons_succ, List.getElem?_cons_zero]; rfl)
        case hgd => rfl
        case hop => rfl
        case hs => rfl
        case hx => rfl
        case hrs => exact AllReady.nil
        intro v19 x19 q19 p19
        have b19 := bl_kp b18 p19 (Win.block o18)
        have s19 := Sl.kp s18 p19 (fun ad e h => by injection e with e; subst e; simp [Value.ownBlock] at h)
        (try simp only [Act.put, List.setIfInBounds_toArray, List.set_cons_succ, List.set_cons_zero])
        refine wpAny_ready (rs := [7]) (by decide +kernel) (by simp) ?_
        apply ready_app38 (s := .tmp 20) (x := .tmp 22) (B := W0.heap.size) (hown := q19) (m := 1) (c := 1) (news := bvs id) (hl := by rw [bvs_length, HID.out]) (hA := s19) (h1 := bvs_one id) (hbd := by omega) (hB := b19.size)
        case ho => (simp only [List.getElem?_toArray, List.getElem?_cons_succ, List.getElem?_cons_zero]; rfl)
        case hgd => rfl
        case hop => rfl
        case hs => rfl
        case hx => rfl
        case hrs => exact AllReady.nil
        intro v20 x20 q20 p20
        have b20 := bl_kp b19 p20 (Win.block q19)
        (try simp only [Act.put, List.setIfInBounds_toArray, List.set_cons_succ, List.set_cons_zero])
        apply wpAny_take (i := 8)
        case hi => (simp only [List.getElem?_toArray, List.getElem?_cons_succ, List.getElem?_cons_zero]; rfl)
        case hs => decide +kernel
        case hf => decide +kernel
        case hr => decide +kernel
        case hQ => exact fun _ _ _ h => h
        case hy => exact Or.inl ⟨by rfl, by intro w; go_simp; (try with_reducible rfl)⟩
        (try simp only [Act.put, List.setIfInBounds_toArray, List.set_cons_succ, List.set_cons_zero])
        refine wpAny_done (by kernel_rfl) ?_ _
        go_wp2
        go_meet
        case rel => exact ⟨by simpa using q20, b20⟩
      apply ready_val (v := .slice (some ⟨(w1.drew).heap.size, 0, none⟩) 1 1) (w' := (w1.drew).alloc (.cells (bvs id).toArray 22))
      case ho => (simp only [List.getElem?_toArray, List.getElem?_cons_succ, List.getElem?_cons_zero]; rfl)
      case hgd => rfl
      case hrun => exact run_one38 21 rfl id HID.out rfl
      case hs => exact AllReady.nil
      have b21 := bl_alloc b0 (.cells (bvs id).toArray 22)
      have s21 := sl_one (X := w1.drew) id
      (try simp only [Act.put, List.setIfInBounds_toArray, List.set_cons_succ, List.set_cons_zero])
      refine wpAny_ready (rs := [0]) (by decide +kernel) (by simp) ?_
      apply ready_val (v := .slice (some ⟨((w1.drew).alloc (.cells (bvs id).toArray 22)).heap.size, 0, none⟩) 0 0) (w' := ((w1.drew).alloc (.cells (bvs id).toArray 22)).alloc (.cells #[] 22))
      case ho => (simp only [List.getElem?_toArray, List.getElem?_cons_succ, List.getElem?_cons_zero]; rfl)
      case hgd => rfl
      case hrun => exact run_empty38 rfl
      case hs => exact AllReady.nil
      have b22 := bl_alloc b21 (.cells #[] 22)
      have o22 := own_empty (B := W0.heap.size) (X := (w1.drew).alloc (.cells (bvs id).toArray 22)) b21.size
      have s22 := Sl.below s21 (bl_self ((w1.drew).alloc (.cells (bvs id).toArray 22)) (.cells #[] 22))
      (try simp only [Act.put, List.setIfInBounds_toArray, List.set_cons_succ, List.set_cons_zero])
      refine wpAny_ready (rs := [4]) (by decide +kernel) (by simp) ?_
      apply ready_app38 (s := .tmp 16) (x := .tmp 19) (B := W0.heap.size) (hown := o22) (A := A) (m := k) (c := c) (news := idc (l.take k)) (hl := HLT.out) (hA := HAT.out.below b22) (h1 := idc_one _) (hbd := by omega) (hB := b22.size)
      case ho => (simp only [List.getElem?_toArray, List.getElem?_cons_succ, List.getElem?_cons_zero]; rfl)
      case hgd => rfl
      case hop => rfl
      case hs => rfl
      case hx => rfl
      case hrs => exact AllReady.nil
      intro v23 x23 q23 p23
      have b23 := bl_kp b22 p23 (Win.block o22)
      have s23 := Sl.kp s22 p23 (fun ad e h => by injection e with e; subst e; simp [Value.ownBlock] at h)
      (try simp only [Act.put, List.setIfInBounds_toArray, List.set_cons_succ, List.set_cons_zero])
      refine wpAny_ready (rs := [7]) (by decide +kernel) (by simp) ?_
      apply ready_app38 (s := .tmp 20) (x := .tmp 22) (B := W0.heap.size) (hown := q23) (m := 1) (c := 1) (news := bvs id) (hl := by rw [bvs_length, HID.out]) (hA := s23) (h1 := bvs_one id) (hbd := by omega) (hB := b23.size)
      case ho => (simp only [List.getElem?_toArray, List.getElem?_cons_succ, List.getElem?_cons_zero]; rfl)
      case hgd => rfl
      case hop => rfl
      case hs => rfl
      case hx => rfl
      case hrs => exact AllReady.nil
      intro v24 x24 q24 p24
      have b24 := bl_kp b23 p24 (Win.block q23)
      (try simp only [Act.put, List.setIfInBounds_toArray, List.set_cons_succ, List.set_cons_zero])
      apply wpAny_take (i := 8)
      case hi => (simp only [List.getElem?_toArray, List.getElem?_cons_succ, List.getElem?_cons_zero]; rfl)
      case hs => decide +kernel
      case hf => decide +kernel
      case hr => decide +kernel
      case hQ => exact fun _ _ _ h => h
      case hy => exact Or.inl ⟨by rfl, by intro w; go_simp; (try with_reducible rfl)⟩
      (try simp only [Act.put, List.setIfInBounds_toArray, List.set_cons_succ, List.set_cons_zero])
      refine wpAny_done (by kernel_rfl) ?_ _
      go_wp2
      go_meet
      case rel => exact ⟨by simpa using q24, b24⟩
    case rest =>
      obtain ⟨hwin, hbx⟩ := hcut
      have e : putI l id = l.take k ++ [id] ++ l.drop k := by unfold putI; rw [if_neg (by rw [← HR.out]; exact Bool.false_ne_true), ← HK.out]
      have ec : idc (putI l id) = idc (l.take k) ++ bvs id ++ idc (l.drop k) := by rw [e]; unfold idc; simp
      have el : (putI l id).length = k + 1 + (n - k) := by rw [e]; simp only [List.length_append, List.length_take, List.length_drop, List.length_cons, List.length_nil, ← HN.out]; omega
      have d20 : All20 (l.drop k) := fun x hx => H20.out x (List.mem_of_mem_drop hx)
      have hdl : (idc (l.drop k)).length = (n - k) * 20 := by rw [idc_len _ d20, List.length_drop, ← HN.out]
      have eidc : idc l = idc (l.take k) ++ idc (l.drop k) := by unfold idc; rw [← List.flatMap_append, List.take_append_drop]
      have hsrc : ∀ A2, A2 = cutA A c k 20 → Sl wc A2 (idc (l.drop k)) := fun A2 h => by
        subst h
        have := Sl.cut (HA0.out.below hbx) k c 20 (by rw [idc_len l H20.out, ← HN.out]; exact Nat.mul_le_mul_right 20 hc)
        rwa [eidc, List.drop_append_of_le_length (by rw [HLT.out]; exact Nat.le_refl _), List.drop_of_length_le (by rw [HLT.out]; exact Nat.le_refl _), List.nil_append] at this
      have HS := Lib.hid hsrc; have HW := Lib.hid hwin; have HEC := Lib.hid ec; have HEL := Lib.hid el; have HDL := Lib.hid hdl
      have hbs := hbx.size
      clear hsrc hwin e ec el d20 hdl eidc
      by_cases hck : c = k
      · go_wp2_with (at_builtin
                     refine wpList_appW rfl (.tmp 24) (.tmp 27) 38 38 rfl W0.heap.size 22 (idv zs20) 20 20 Try.underlying38 Try.info22 (by show (bvs zs20).toArray.size = 20; simp [zs20_len]) (by decide) _ (k + 1) _ rfl HW.out (.slice A (n - k) 0) (n - k) (idc (l.drop k)) rfl (srcOf Try.underlying38 (by decide) HDL.out (HS.out A (by unfold cutA; rw [if_pos hck])) (idc_one _)) (by omega) (by unfold maxLen; omega) hbs ?_
                     intro v2 w2 hw2 hk2 ho2)
        go_ret
        obtain ⟨A2, c2, hv, hc2, _, hs2⟩ := hw2.reads
        exact ⟨A2, c2, by rw [HEL.out, ← hv]; rfl, by rw [HEL.out]; exact hc2, by rw [HEC.out]; exact hs2, Hb0.out.trans ((bl_kp hbx hk2 (Win.block HW.out)).mono Hb0.out.size)⟩
      · go_wp2_with (at_builtin
                     refine wpList_appW rfl (.tmp 24) (.tmp 27) 38 38 rfl W0.heap.size 22 (idv zs20) 20 20 Try.underlying38 Try.info22 (by show (bvs zs20).toArray.size = 20; simp [zs20_len]) (by decide) _ (k + 1) _ rfl HW.out (.slice (A.map (fun x => x.add (k * 20))) (n - k) (c - k)) (n - k) (idc (l.drop k)) rfl (srcOf Try.underlying38 (by decide) HDL.out (HS.out _ (by unfold cutA; rw [if_neg hck])) (idc_one _)) (by omega) (by unfold maxLen; omega) hbs ?_
                     intro v2 w2 hw2 hk2 ho2)
        go_ret
        obtain ⟨A2, c2, hv, hc2, _, hs2⟩ := hw2.reads
        exact ⟨A2, c2, by rw [HEL.out, ← hv]; rfl, by rw [HEL.out]; exact hc2, by rw [HEC.out]; exact hs2, Hb0.out.trans ((bl_kp hbx hk2 (Win.block HW.out)).mono Hb0.out.size)⟩
end Go.Proofs.Ytjiiploleinobaa
