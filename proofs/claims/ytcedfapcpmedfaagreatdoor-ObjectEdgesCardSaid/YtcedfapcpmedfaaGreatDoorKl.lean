/- The reference's Put: a name into a rising row. Conditions: twenty bytes each, fewer than 255 names.
   The reference's Put: a name into a rising row. Conditions: twenty bytes each, fewer than 255 names.
   Put: rising rows stay rising, who is in. Plain laws. No condition.
   object.Check, Edges at trees; Parents of a commit. Conditions: at most 5600 bytes (a tree), at most 12000 (a commit); what the library's variables hold.
   ObjectEdges, plain: the entries na, nb, ..; what is wanted; parents once each. Plain laws. No condition.
   An argument of the type of rows of truths, as the row's frame hands it over. No condition. -/
import Derived.Test.YtcedfapcpmedfaaGreatDoorKe
import Derived.Test.YtcedfapcpmedfaaGreatDoorKh
import Derived.Test.YtcedfapcpmedfaaGreatDoorKk
import Derived.Deep.Grids
namespace Go.Proofs.YtcedfapcpmedfaaGreatDoor
section
open Go.RowKit
set_option maxRecDepth 100000
set_option maxHeartbeats 4000000
set_option linter.unusedVariables false
theorem wp_val {P : Program} {o : Oper} {a : Act} {w w' : World} {v : Value} {K : Act → World → Prop} {Q : Exit → Act → World → Prop} (h : (execOp a.eval o).run P w = .ok (.value v) w') (hK : K (a.put o.dst v) w') : Oper.wp P o a w K Q := by
  unfold Oper.wp
  rw [h]
  exact hK
theorem ready_val {P : Program} {md : Region.Mode} {ops : Array Oper} {Q : Exit → Act → World → Prop} {fuel : Nat} {listed : Array Bool} {a : Act} {w w' : World} {i : Nat} {o : Oper} {rs : List Nat} (v : Value) (ho : ops[i]? = some o) (hgd : o.guard = none)
    (hrun : (execOp a.eval o).run P w = .ok (.value v) w') (hs : AllReady P md ops Q fuel listed a w rs)
    (h : wpAny P md ops Q fuel (listed.setIfInBounds i true) (a.put o.dst v) w') : AllReady P md ops Q fuel listed a w (i :: rs) :=
  AllReady.cons ho (fun K hK => step_if (by simp [Region.wanted, hgd]) (wp_val hrun (hK _ _ h))) hs
theorem run_empty38 {o : Oper} {ev : Operand → Value} {w : World} (ho : o.op = .buildSlice 52 0 #[]) : (execOp ev o).run Tryz.prog w = .ok (.value (.slice (some ⟨w.heap.size, 0, none⟩) 0 0)) (w.alloc (.cells #[] 26)) := by
  have h : (Instr.buildSlice 52 0 #[]).run Tryz.prog w = .ok (.slice (some ⟨w.heap.size, 0, none⟩) 0 0) (w.alloc (.cells #[] 26)) := by kernel_rfl
  unfold execOp
  simp [ho, h]
theorem fill_one (x : List UInt8) (hx : x.length = 20) : Instr.fill (fun i => some (i * 20, 20)) (bvs zs20).toArray [(0, idv x)] = some (bvs x).toArray := by
  have fl := fold_lit x hx
  have h1 : (idv x).cells.size = 20 := by show (bvs x).toArray.size = 20; simp [hx]
  have h2 : (bvs zs20).toArray.size = 20 := by simp [zs20_len]
  have h3 : (idv x).cells = (bvs x).toArray := rfl
  unfold Instr.fill
  simp only [h2, h3]
  rw [if_neg (by simp [hx])]
  unfold Instr.fill
  congr 1
  have : (bvs x).toArray.zipIdx = (bvs x).zipIdx.toArray := by simp
  rw [this]
  simp only [Nat.zero_mul, Nat.zero_add, List.foldl_toArray]
  exact fl
theorem run_one38 {o : Oper} {ev : Operand → Value} {w : World} (t : Nat) (ho : o.op = .buildSlice 52 1 #[(0, .tmp t)]) (x : List UInt8) (hx : x.length = 20) (hv : ev (.tmp t) = idv x) : (execOp ev o).run Tryz.prog w = .ok (.value (.slice (some ⟨w.heap.size, 0, none⟩) 1 1)) (w.alloc (.cells (bvs x).toArray 26)) := by
  obtain ⟨z, hzz⟩ : ∃ z, z = idv zs20 := ⟨_, rfl⟩
  have hs : (sizeOf 26).run Tryz.prog w = .ok 20 w := by kernel_rfl
  have hz : (zeroValue 26).run Tryz.prog w = .ok z w := by rw [hzz]; kernel_rfl
  have hmap : (Array.range (1 * 20)).map (fun i => z.cells[i % z.cells.size]!) = (bvs zs20).toArray := by rw [hzz]; kernel_rfl
  have hf := fill_one x hx
  have h : (Instr.buildSlice 52 1 #[(0, idv x)]).run Tryz.prog w = .ok (.slice (some ⟨w.heap.size, 0, none⟩) 1 1) (w.alloc (.cells (bvs x).toArray 26)) := by
    unfold Instr.buildSlice
    simp only [Sem.run_bind, run_underlying Tryz.underlying52, Result.andThen_ok, hs]
    rw [if_neg (by omega), if_neg (by omega)]
    simp only [Sem.run_bind, Sem.run_pure, Result.andThen_ok, hz, hmap, hf]
    simp [newRow]
  unfold execOp
  simp [ho, hv, h]
end
section
open Go.RowKit
set_option maxRecDepth 100000
set_option maxHeartbeats 4000000
set_option linter.unusedVariables false
theorem ready_app38 {md : Region.Mode} {ops : Array Oper} {Q : Exit → Act → World → Prop} {fuel : Nat} {listed : Array Bool} {a : Act} {w : World} {i : Nat} {o : Oper} {rs : List Nat} (ho : ops[i]? = some o) (hgd : o.guard = none)
    (s x : Operand) (hop : o.op = .call { callee := .builtin .append, args := #[s, x], argTypes := #[52, 52] })
    (B : Nat) (v : Value) (n : Nat) (xs : List Value) (hs : a.eval s = v) (hown : Win w B 26 20 v n xs) (A : Option Addr) (m c : Nat) (news : List Value) (hx : a.eval x = .slice A m c) (hl : news.length = m * 20) (hA : Sl w A news) (h1 : ∀ u ∈ news, u.oneCell' = true) (hbd : n + m ≤ 1000) (hB : B ≤ w.heap.size)
    (hrs : AllReady Tryz.prog md ops Q fuel listed a w rs)
    (h : ∀ v' w', Win w' B 26 20 v' (n + m) (xs ++ news) → Kp (fun k => v.ownBlock = some k) w w' → wpAny Tryz.prog md ops Q fuel (listed.setIfInBounds i true) (a.put o.dst v') w') : AllReady Tryz.prog md ops Q fuel listed a w (i :: rs) := by
  obtain ⟨v', w', hrun, h1', h2, h3⟩ := run_appW (P := Tryz.prog) B 52 52 o.type 26 (idv zs20) 20 20 Tryz.underlying52 Tryz.info22 (by show (bvs zs20).toArray.size = 20; simp [zs20_len]) (by decide) v n xs hown (.slice A m c) m news (srcOf Tryz.underlying52 (by decide) (by omega) hA h1) (by omega) (by unfold maxLen; omega) hB
  refine ready_val v' ho hgd ?_ hrs (h v' w' h1' h2)
  unfold execOp
  simp [hop, resolve, invoke, builtin, hs, hx, hrun, Result.andThen]
theorem own_empty {B : Nat} {X : World} (hB : B ≤ X.heap.size) : Win (X.alloc (.cells #[] 26)) B 26 20 (.slice (some ⟨X.heap.size, 0, none⟩) 0 0) 0 [] :=
  ⟨by simp, .inr ⟨X.heap.size, 0, 0, #[], rfl, hB, heap_alloc_new _ _, by omega, by unfold maxLen; omega, by simp, by simp⟩⟩
theorem sl_one {X : World} (id : List UInt8) : Sl (X.alloc (.cells (bvs id).toArray 26)) (some ⟨X.heap.size, 0, none⟩) (bvs id) :=
  Sl.of_block (heap_alloc_new _ _) (fun j v hj => by simpa using hj)
theorem bl_self (X : World) (o : Obj) : Below X.heap.size X (X.alloc o) := (Below.refl _ _).alloc (Nat.le_refl _) _
theorem bl_alloc {a X : World} (h : Below a.heap.size a X) (o : Obj) : Below a.heap.size a (X.alloc o) := h.trans ((bl_self X o).mono h.size)
theorem bl_kp {a X Y : World} {v : Value} (h : Below a.heap.size a X) (p : Kp (fun k => v.ownBlock = some k) X Y) (hb : ∀ g, v.ownBlock = some g → a.heap.size ≤ g ∧ g < X.heap.size) : Below a.heap.size a Y :=
  h.trans (p.toBelow h.size (fun k hk e => by have := (hb k e).1; omega))
theorem fk_le (l : List (List UInt8)) (id : List UInt8) : fk l id ≤ l.length := by
  unfold fk
  exact (List.takeWhile_sublist _).length_le
def putI (l : List (List UInt8)) (id : List UInt8) : List (List UInt8) := if fis l id = true then l else l.take (fk l id) ++ [id] ++ l.drop (fk l id)
theorem putR_any (l : List (List UInt8)) (h20 : All20 l) (hn : l.length < 255) (A : Option Addr) (c : Nat) (hc : l.length ≤ c) (id : List UInt8) (hid : id.length = 20) (w : World) (hA : Sl w A (idc l)) :
    Calls Tryz.prog 49 #[.slice A l.length c, idv id] w fun e w' => ∃ A' c', e = .returned (.slice A' (putI l id).length c') ∧ (putI l id).length ≤ c' ∧ Sl w' A' (idc (putI l id)) ∧ Below w.heap.size w w' ∧ (A' = A ∨ ∀ ad, A' = some ad → w.heap.size ≤ ad.block ∧ ad.block < w'.heap.size) := by
  have hle := fk_le l id
  have hcn : ¬ (c = fk l id ∧ False) := fun h => h.2
  obtain ⟨W0, hW0⟩ : ∃ W0, W0 = w.alloc (.cells (bvs id).toArray 26) := ⟨_, rfl⟩
  have hb0 : Below w.heap.size w W0 := by rw [hW0]; exact (Below.refl _ _).alloc (Nat.le_refl _) _
  have I0 : Sl W0 (some ⟨w.heap.size, 0, none⟩) (bvs id) := by
    rw [hW0]
    exact Sl.of_block (heap_alloc_new _ _) (fun j v hj => by simpa using hj)
  have kf := reffind_any l h20 (by omega) A c id hid W0 (hA.below hb0)
  have li := load_id22 id hid _ _ I0
  have HW0 := Lib.hid hW0; have HI0 := Lib.hid I0; have Hb0 := Lib.hid hb0; have HA0 := Lib.hid (hA.below hb0)
  have H20 := Lib.hid h20; have HID := Lib.hid hid
  obtain ⟨r, hr⟩ : ∃ r, r = fis l id := ⟨_, rfl⟩
  obtain ⟨k, hk⟩ : ∃ k, k = fk l id := ⟨_, rfl⟩
  obtain ⟨n, hnn⟩ : ∃ n, n = l.length := ⟨_, rfl⟩
  rw [← hr, ← hk] at kf
  rw [← hnn] at kf hle hc hn ⊢
  rw [← hk] at hle
  have HR := Lib.hid hr; have HK := Lib.hid hk; have HN := Lib.hid hnn
  clear hW0 I0 hb0 hA h20 hid hr hk hnn hcn
  go_enter Tryz.func49, Tryz.ntmps49
  go_upto_region 1 with (fail)
  rw [← HW0.out]
  go_upto_region 2 with (first
    | (refine wpList_loadG 26 (.tmp 3) rfl ⟨w.heap.size, 0, none⟩ rfl (idv id) li rfl ?_)
    | (go_at_call 96; (with_reducible refine kf.mono ?_); rintro e w1 ⟨rfl, hb1⟩))
  cases r with
  | true =>
    have HA1 := Lib.hid (HA0.out.below hb1)
    have e : putI l id = l := by unfold putI; rw [if_pos HR.out.symm]
    have HE := Lib.hid e
    clear e li
    go_wp2
    go_ret
    exact ⟨A, c, by rw [HE.out, ← HN.out]; rfl, by rw [HE.out, ← HN.out]; exact hc, by rw [HE.out]; exact HA1.out, Hb0.out.trans (hb1.mono Hb0.out.size), .inl rfl⟩
  | false =>
    clear li
    have hkc : k ≤ c := by omega
    go_upto_region 4 with (fail)
    have tk : l.take k = (l.take k) := rfl
    have hlt : (idc (l.take k)).length = k * 20 := by
      rw [idc_len _ (fun x hx => H20.out x (List.mem_of_mem_take hx)), List.length_take, ← HN.out, Nat.min_eq_left hle]
    have hat : Sl W0 A (idc (l.take k)) := fun j v hj => HA0.out j v (by
      have e : idc l = idc (l.take k) ++ idc (l.drop k) := by unfold idc; rw [← List.flatMap_append, List.take_append_drop]
      rw [e, List.getElem?_append_left (List.getElem?_eq_some_iff.1 hj).1]
      exact hj)
    have HLT := Lib.hid hlt; have HAT := Lib.hid hat
    clear hlt hat tk
    go_cut [7] from 8 (fun t7 wx => Win wx W0.heap.size 26 20 t7 (k + 1) (idc (l.take k) ++ bvs id) ∧ Below W0.heap.size W0 wx)
    case first =>
      refine wp_region_any (by kernel_rfl) ?_
      change wpAny _ _ _ _ _ _ _ (World.drew _)
      apply wpAny_take (i := 1)
      case hi => (simp only [List.getElem?_toArray, List.getElem?_cons_succ, List.getElem?_cons_zero]; rfl)
      case hs => decide +kernel
      case hf => decide +kernel
      case hr => decide +kernel
      case hQ => exact fun _ _ _ h => h
      case hy => exact Or.inl ⟨by rfl, by intro w; go_simp; (try with_reducible rfl)⟩
      (try simp only [Act.put, List.setIfInBounds_toArray, List.set_cons_succ, List.set_cons_zero])
      apply wpAny_take (i := 2)
      case hi => (simp only [List.getElem?_toArray, List.getElem?_cons_succ, List.getElem?_cons_zero]; rfl)
      case hs => decide +kernel
      case hf => decide +kernel
      case hr => decide +kernel
      case hQ => exact fun _ _ _ h => h
      case hy => exact Or.inl ⟨by rfl, by intro w; go_simp; (try with_reducible rfl)⟩
      (try simp only [Act.put, List.setIfInBounds_toArray, List.set_cons_succ, List.set_cons_zero])
      apply wpAny_take (i := 3)
      case hi => (simp only [List.getElem?_toArray, List.getElem?_cons_succ, List.getElem?_cons_zero]; rfl)
      case hs => decide +kernel
      case hf => decide +kernel
      case hr => decide +kernel
      case hQ => exact fun _ _ _ h => h
      case hy => exact Or.inl ⟨by rfl, by intro w; go_simp; (try with_reducible rfl)⟩
      (try simp only [Act.put, List.setIfInBounds_toArray, List.set_cons_succ, List.set_cons_zero])
      have b0 := hb1.drew
      refine wpAny_ready (rs := [0, 5]) (by decide +kernel) (by simp) ?_
      apply ready_val (v := .slice (some ⟨(w1.drew).heap.size, 0, none⟩) 0 0) (w' := (w1.drew).alloc (.cells #[] 26))
      case ho => (simp only [List.getElem?_toArray, List.getElem?_cons_zero]; rfl)
      case hgd => rfl
      case hrun => exact run_empty38 rfl
      case h =>
        have b1 := bl_alloc b0 (.cells #[] 26)
        have o1 := own_empty (B := W0.heap.size) (X := w1.drew) b0.size
        (try simp only [Act.put, List.setIfInBounds_toArray, List.set_cons_succ, List.set_cons_zero])
        refine wpAny_ready (rs := [4, 5]) (by decide +kernel) (by simp) ?_
        apply ready_app38 (s := .tmp 16) (x := .tmp 19) (B := W0.heap.size) (hown := o1) (A := A) (m := k) (c := c) (news := idc (l.take k)) (hl := HLT.out) (hA := HAT.out.below b1) (h1 := idc_one _) (hbd := by omega) (hB := b1.size)
        case ho => (simp only [List.getElem?_toArray, List.getElem?_cons_succ, List.getElem?_cons_zero]; rfl)
        case hgd => rfl
        case hop => rfl
        case hs => rfl
        case hx => rfl
        case h =>
          intro v2 x2 q2 p2
          have b2 := bl_kp b1 p2 (Win.block o1)
          (try simp only [Act.put, List.setIfInBounds_toArray, List.set_cons_succ, List.set_cons_zero])
          refine wpAny_ready (rs := [5]) (by decide +kernel) (by simp) ?_
          apply ready_load (ty := 26) (x := .tmp 3) (ad := ⟨w.heap.size, 0, none⟩) (v := idv id) (hl := load_id22 id HID.out _ _ (HI0.out.below b2))
          case ho => (simp only [List.getElem?_toArray, List.getElem?_cons_succ, List.getElem?_cons_zero]; rfl)
          case hgd => rfl
          case hop => rfl
          case hx => rfl
          case hs => exact AllReady.nil
          (try simp only [Act.put, List.setIfInBounds_toArray, List.set_cons_succ, List.set_cons_zero])
          refine wpAny_ready (rs := [6]) (by decide +kernel) (by simp) ?_
          apply ready_val (v := .slice (some ⟨(x2).heap.size, 0, none⟩) 1 1) (w' := (x2).alloc (.cells (bvs id).toArray 26))
          case ho => (simp only [List.getElem?_toArray, List.getElem?_cons_succ, List.getElem?_cons_zero]; rfl)
          case hgd => rfl
          case hrun => exact run_one38 21 rfl id HID.out rfl
          case hs => exact AllReady.nil
          have b4 := bl_alloc b2 (.cells (bvs id).toArray 26)
          have s4 := sl_one (X := x2) id
          have q4 := Win.below q2 (bl_self (x2) (.cells (bvs id).toArray 26))
          (try simp only [Act.put, List.setIfInBounds_toArray, List.set_cons_succ, List.set_cons_zero])
          refine wpAny_ready (rs := [7]) (by decide +kernel) (by simp) ?_
          apply ready_app38 (s := .tmp 20) (x := .tmp 22) (B := W0.heap.size) (hown := q4) (m := 1) (c := 1) (news := bvs id) (hl := by rw [bvs_length, HID.out]) (hA := s4) (h1 := bvs_one id) (hbd := by omega) (hB := b4.size)
          case ho => (simp only [List.getElem?_toArray, List.getElem?_cons_succ, List.getElem?_cons_zero]; rfl)
          case hgd => rfl
          case hop => rfl
          case hs => rfl
          case hx => rfl
          case hrs => exact AllReady.nil
          intro v5 x5 q5 p5
          have b5 := bl_kp b4 p5 (Win.block q4)
          (try simp only [Act.put, List.setIfInBounds_toArray, List.set_cons_succ, List.set_cons_zero])
          apply wpAny_take (i := 8)
          case hi => (simp only [List.getElem?_toArray, List.getElem?_cons_succ, List.getElem?_cons_zero]; rfl)
          case hs => decide +kernel
          case hf => decide +kernel
          case hr => decide +kernel
          case hQ => exact fun _ _ _ h => h
          case hy => exact Or.inl ⟨by rfl, by intro w; go_simp; (try with_reducible rfl)⟩
          (try simp only [Act.put, List.setIfInBounds_toArray, List.set_cons_succ, List.set_cons_zero])
          refine wpAny_done (by kernel_rfl) ?_ _
          go_wp2
          go_meet
          case rel => exact ⟨by simpa using q5, b5⟩
        apply ready_load (ty := 26) (x := .tmp 3) (ad := ⟨w.heap.size, 0, none⟩) (v := idv id) (hl := load_id22 id HID.out _ _ (HI0.out.below b1))
        case ho => (simp only [List.getElem?_toArray, List.getElem?_cons_succ, List.getElem?_cons_zero]; rfl)
        case hgd => rfl
        case hop => rfl
        case hx => rfl
        case hs => exact AllReady.nil
        (try simp only [Act.put, List.setIfInBounds_toArray, List.set_cons_succ, List.set_cons_zero])
        refine wpAny_ready (rs := [4, 6]) (by decide +kernel) (by simp) ?_
        apply ready_app38 (s := .tmp 16) (x := .tmp 19) (B := W0.heap.size) (hown := o1) (A := A) (m := k) (c := c) (news := idc (l.take k)) (hl := HLT.out) (hA := HAT.out.below b1) (h1 := idc_one _) (hbd := by omega) (hB := b1.size)
        case ho => (simp only [List.getElem?_toArray, List.getElem?_cons_succ, List.getElem?_cons_zero]; rfl)
        case hgd => rfl
        case hop => rfl
        case hs => rfl
        case hx => rfl
        case h =>
          intro v7 x7 q7 p7
          have b7 := bl_kp b1 p7 (Win.block o1)
          (try simp only [Act.put, List.setIfInBounds_toArray, List.set_cons_succ, List.set_cons_zero])
          refine wpAny_ready (rs := [6]) (by decide +kernel) (by simp) ?_
          apply ready_val (v := .slice (some ⟨(x7).heap.size, 0, none⟩) 1 1) (w' := (x7).alloc (.cells (bvs id).toArray 26))
          case ho => (simp only [List.getElem?_toArray, List.getElem?_cons_succ, List.getElem?_cons_zero]; rfl)
          case hgd => rfl
          case hrun => exact run_one38 21 rfl id HID.out rfl
          case hs => exact AllReady.nil
          have b8 := bl_alloc b7 (.cells (bvs id).toArray 26)
          have s8 := sl_one (X := x7) id
          have q8 := Win.below q7 (bl_self (x7) (.cells (bvs id).toArray 26))
          (try simp only [Act.put, List.setIfInBounds_toArray, List.set_cons_succ, List.set_cons_zero])
          refine wpAny_ready (rs := [7]) (by decide +kernel) (by simp) ?_
          apply ready_app38 (s := .tmp 20) (x := .tmp 22) (B := W0.heap.size) (hown := q8) (m := 1) (c := 1) (news := bvs id) (hl := by rw [bvs_length, HID.out]) (hA := s8) (h1 := bvs_one id) (hbd := by omega) (hB := b8.size)
          case ho => (simp only [List.getElem?_toArray, List.getElem?_cons_succ, List.getElem?_cons_zero]; rfl)
          case hgd => rfl
          case hop => rfl
          case hs => rfl
          case hx => rfl
          case hrs => exact AllReady.nil
          intro v9 x9 q9 p9
          have b9 := bl_kp b8 p9 (Win.block q8)
          (try simp only [Act.put, List.setIfInBounds_toArray, List.set_cons_succ, List.set_cons_zero])
          apply wpAny_take (i := 8)
          case hi => (simp only [List.getElem?_toArray, List.getElem?_cons_succ, List.getElem?_cons_zero]; rfl)
          case hs => decide +kernel
          case hf => decide +kernel
          case hr => decide +kernel
          case hQ => exact fun _ _ _ h => h
          case hy => exact Or.inl ⟨by rfl, by intro w; go_simp; (try with_reducible rfl)⟩
          (try simp only [Act.put, List.setIfInBounds_toArray, List.set_cons_succ, List.set_cons_zero])
          refine wpAny_done (by kernel_rfl) ?_ _
          go_wp2
          go_meet
          case rel => exact ⟨by simpa using q9, b9⟩
        apply ready_val (v := .slice (some ⟨((w1.drew).alloc (.cells #[] 26)).heap.size, 0, none⟩) 1 1) (w' := ((w1.drew).alloc (.cells #[] 26)).alloc (.cells (bvs id).toArray 26))
        case ho => (simp only [List.getElem?_toArray, List.getElem?_cons_succ, List.getElem?_cons_zero]; rfl)
        case hgd => rfl
        case hrun => exact run_one38 21 rfl id HID.out rfl
        case hs => exact AllReady.nil
        have b10 := bl_alloc b1 (.cells (bvs id).toArray 26)
        have s10 := sl_one (X := (w1.drew).alloc (.cells #[] 26)) id
        have o10 := Win.below o1 (bl_self ((w1.drew).alloc (.cells #[] 26)) (.cells (bvs id).toArray 26))
        (try simp only [Act.put, List.setIfInBounds_toArray, List.set_cons_succ, List.set_cons_zero])
        refine wpAny_ready (rs := [4]) (by decide +kernel) (by simp) ?_
        apply ready_app38 (s := .tmp 16) (x := .tmp 19) (B := W0.heap.size) (hown := o10) (A := A) (m := k) (c := c) (news := idc (l.take k)) (hl := HLT.out) (hA := HAT.out.below b10) (h1 := idc_one _) (hbd := by omega) (hB := b10.size)
        case ho => (simp only [List.getElem?_toArray, List.getElem?_cons_succ, List.getElem?_cons_zero]; rfl)
        case hgd => rfl
        case hop => rfl
        case hs => rfl
        case hx => rfl
        case hrs => exact AllReady.nil
        intro v11 x11 q11 p11
        have b11 := bl_kp b10 p11 (Win.block o10)
        have s11 := Sl.kp s10 p11 (fun ad e h => by injection e with e; subst e; simp [Value.ownBlock] at h)
        (try simp only [Act.put, List.setIfInBounds_toArray, List.set_cons_succ, List.set_cons_zero])
        refine wpAny_ready (rs := [7]) (by decide +kernel) (by simp) ?_
        apply ready_app38 (s := .tmp 20) (x := .tmp 22) (B := W0.heap.size) (hown := q11) (m := 1) (c := 1) (news := bvs id) (hl := by rw [bvs_length, HID.out]) (hA := s11) (h1 := bvs_one id) (hbd := by omega) (hB := b11.size)
        case ho => (simp only [List.getElem?_toArray, List.getElem?_cons_succ, List.getElem?_cons_zero]; rfl)
        case hgd => rfl
        case hop => rfl
        case hs => rfl
        case hx => rfl
        case hrs => exact AllReady.nil
        intro v12 x12 q12 p12
        have b12 := bl_kp b11 p12 (Win.block q11)
        (try simp only [Act.put, List.setIfInBounds_toArray, List.set_cons_succ, List.set_cons_zero])
        apply wpAny_take (i := 8)
        case hi => (simp only [List.getElem?_toArray, List.getElem?_cons_succ, List.getElem?_cons_zero]; rfl)
        case hs => decide +kernel
        case hf => decide +kernel
        case hr => decide +kernel
        case hQ => exact fun _ _ _ h => h
        case hy => exact Or.inl ⟨by rfl, by intro w; go_simp; (try with_reducible rfl)⟩
        (try simp only [Act.put, List.setIfInBounds_toArray, List.set_cons_succ, List.set_cons_zero])
        refine wpAny_done (by kernel_rfl) ?_ _
        go_wp2
        go_meet
        case rel => exact ⟨by simpa using q12, b12⟩
      apply ready_load (ty := 26) (x := .tmp 3) (ad := ⟨w.heap.size, 0, none⟩) (v := idv id) (hl := load_id22 id HID.out _ _ (HI0.out.below b0))
      case ho => (simp only [List.getElem?_toArray, List.getElem?_cons_succ, List.getElem?_cons_zero]; rfl)
      case hgd => rfl
      case hop => rfl
      case hx => rfl
      case hs => exact AllReady.nil
      (try simp only [Act.put, List.setIfInBounds_toArray, List.set_cons_succ, List.set_cons_zero])
      refine wpAny_ready (rs := [0, 6]) (by decide +kernel) (by simp) ?_
      apply ready_val (v := .slice (some ⟨(w1.drew).heap.size, 0, none⟩) 0 0) (w' := (w1.drew).alloc (.cells #[] 26))
      case ho => (simp only [List.getElem?_toArray, List.getElem?_cons_zero]; rfl)
      case hgd => rfl
      case hrun => exact run_empty38 rfl
      case h =>
        have b14 := bl_alloc b0 (.cells #[] 26)
        have o14 := own_empty (B := W0.heap.size) (X := w1.drew) b0.size
        (try simp only [Act.put, List.setIfInBounds_toArray, List.set_cons_succ, List.set_cons_zero])
        refine wpAny_ready (rs := [4, 6]) (by decide +kernel) (by simp) ?_
        apply ready_app38 (s := .tmp 16) (x := .tmp 19) (B := W0.heap.size) (hown := o14) (A := A) (m := k) (c := c) (news := idc (l.take k)) (hl := HLT.out) (hA := HAT.out.below b14) (h1 := idc_one _) (hbd := by omega) (hB := b14.size)
        case ho => (simp only [List.getElem?_toArray, List.getElem?_cons_succ, List.getElem?_cons_zero]; rfl)
        case hgd => rfl
        case hop => rfl
        case hs => rfl
        case hx => rfl
        case h =>
          intro v15 x15 q15 p15
          have b15 := bl_kp b14 p15 (Win.block o14)
          (try simp only [Act.put, List.setIfInBounds_toArray, List.set_cons_succ, List.set_cons_zero])
          refine wpAny_ready (rs := [6]) (by decide +kernel) (by simp) ?_
          apply ready_val (v := .slice (some ⟨(x15).heap.size, 0, none⟩) 1 1) (w' := (x15).alloc (.cells (bvs id).toArray 26))
          case ho => (simp only [List.getElem?_toArray, List.getElem?_cons_succ, List.getElem?_cons_zero]; rfl)
          case hgd => rfl
          case hrun => exact run_one38 21 rfl id HID.out rfl
          case hs => exact AllReady.nil
          have b16 := bl_alloc b15 (.cells (bvs id).toArray 26)
          have s16 := sl_one (X := x15) id
          have q16 := Win.below q15 (bl_self (x15) (.cells (bvs id).toArray 26))
          (try simp only [Act.put, List.setIfInBounds_toArray, List.set_cons_succ, List.set_cons_zero])
          refine wpAny_ready (rs := [7]) (by decide +kernel) (by simp) ?_
          apply ready_app38 (s := .tmp 20) (x := .tmp 22) (B := W0.heap.size) (hown := q16) (m := 1) (c := 1) (news := bvs id) (hl := by rw [bvs_length, HID.out]) (hA := s16) (h1 := bvs_one id) (hbd := by omega) (hB := b16.size)
          case ho => (simp only [List.getElem?_toArray, List.getElem?_cons_succ, List.getElem?_cons_zero]; rfl)
          case hgd => rfl
          case hop => rfl
          case hs => rfl
          case hx => rfl
          case hrs => exact AllReady.nil
          intro v17 x17 q17 p17
          have b17 := bl_kp b16 p17 (Win.block q16)
          (try simp only [Act.put, List.setIfInBounds_toArray, List.set_cons_succ, List.set_cons_zero])
          apply wpAny_take (i := 8)
          case hi => (simp only [List.getElem?_toArray, List.getElem?_cons_succ, List.getElem?_cons_zero]; rfl)
          case hs => decide +kernel
          case hf => decide +kernel
          case hr => decide +kernel
          case hQ => exact fun _ _ _ h => h
          case hy => exact Or.inl ⟨by rfl, by intro w; go_simp; (try with_reducible rfl)⟩
          (try simp only [Act.put, List.setIfInBounds_toArray, List.set_cons_succ, List.set_cons_zero])
          refine wpAny_done (by kernel_rfl) ?_ _
          go_wp2
          go_meet
          case rel => exact ⟨by simpa using q17, b17⟩
        apply ready_val (v := .slice (some ⟨((w1.drew).alloc (.cells #[] 26)).heap.size, 0, none⟩) 1 1) (w' := ((w1.drew).alloc (.cells #[] 26)).alloc (.cells (bvs id).toArray 26))
        case ho => (simp only [List.getElem?_toArray, List.getElem?_cons_succ, List.getElem?_cons_zero]; rfl)
        case hgd => rfl
        case hrun => exact run_one38 21 rfl id HID.out rfl
        case hs => exact AllReady.nil
        have b18 := bl_alloc b14 (.cells (bvs id).toArray 26)
        have s18 := sl_one (X := (w1.drew).alloc (.cells #[] 26)) id
        have o18 := Win.below o14 (bl_self ((w1.drew).alloc (.cells #[] 26)) (.cells (bvs id).toArray 26))
        (try simp only [Act.put, List.setIfInBounds_toArray, List.set_cons_succ, List.set_cons_zero])
        refine wpAny_ready (rs := [4]) (by decide +kernel) (by simp) ?_
        apply ready_app38 (s := .tmp 16) (x := .tmp 19) (B := W0.heap.size) (hown := o18) (A := A) (m := k) (c := c) (news := idc (l.take k)) (hl := HLT.out) (hA := HAT.out.below b18) (h1 := idc_one _) (hbd := by omega) (hB := b18.size)
        case ho => (simp only [List.getElem?_toArray, List.getElem?_cons_succ, List.getElem?_cons_zero]; rfl)
        case hgd => rfl
        case hop => rfl
        case hs => rfl
        case hx => rfl
        case hrs => exact AllReady.nil
        intro v19 x19 q19 p19
        have b19 := bl_kp b18 p19 (Win.block o18)
        have s19 := Sl.kp s18 p19 (fun ad e h => by injection e with e; subst e; simp [Value.ownBlock] at h)
        (try simp only [Act.put, List.setIfInBounds_toArray, List.set_cons_succ, List.set_cons_zero])
        refine wpAny_ready (rs := [7]) (by decide +kernel) (by simp) ?_
        apply ready_app38 (s := .tmp 20) (x := .tmp 22) (B := W0.heap.size) (hown := q19) (m := 1) (c := 1) (news := bvs id) (hl := by rw [bvs_length, HID.out]) (hA := s19) (h1 := bvs_one id) (hbd := by omega) (hB := b19.size)
        case ho => (simp only [List.getElem?_toArray, List.getElem?_cons_succ, List.getElem?_cons_zero]; rfl)
        case hgd => rfl
        case hop => rfl
        case hs => rfl
        case hx => rfl
        case hrs => exact AllReady.nil
        intro v20 x20 q20 p20
        have b20 := bl_kp b19 p20 (Win.block q19)
        (try simp only [Act.put, List.setIfInBounds_toArray, List.set_cons_succ, List.set_cons_zero])
        apply wpAny_take (i := 8)
        case hi => (simp only [List.getElem?_toArray, List.getElem?_cons_succ, List.getElem?_cons_zero]; rfl)
        case hs => decide +kernel
        case hf => decide +kernel
        case hr => decide +kernel
        case hQ => exact fun _ _ _ h => h
        case hy => exact Or.inl ⟨by rfl, by intro w; go_simp; (try with_reducible rfl)⟩
        (try simp only [Act.put, List.setIfInBounds_toArray, List.set_cons_succ, List.set_cons_zero])
        refine wpAny_done (by kernel_rfl) ?_ _
        go_wp2
        go_meet
        case rel => exact ⟨by simpa using q20, b20⟩
      apply ready_val (v := .slice (some ⟨(w1.drew).heap.size, 0, none⟩) 1 1) (w' := (w1.drew).alloc (.cells (bvs id).toArray 26))
      case ho => (simp only [List.getElem?_toArray, List.getElem?_cons_succ, List.getElem?_cons_zero]; rfl)
      case hgd => rfl
      case hrun => exact run_one38 21 rfl id HID.out rfl
      case hs => exact AllReady.nil
      have b21 := bl_alloc b0 (.cells (bvs id).toArray 26)
      have s21 := sl_one (X := w1.drew) id
      (try simp only [Act.put, List.setIfInBounds_toArray, List.set_cons_succ, List.set_cons_zero])
      refine wpAny_ready (rs := [0]) (by decide +kernel) (by simp) ?_
      apply ready_val (v := .slice (some ⟨((w1.drew).alloc (.cells (bvs id).toArray 26)).heap.size, 0, none⟩) 0 0) (w' := ((w1.drew).alloc (.cells (bvs id).toArray 26)).alloc (.cells #[] 26))
      case ho => (simp only [List.getElem?_toArray, List.getElem?_cons_zero]; rfl)
      case hgd => rfl
      case hrun => exact run_empty38 rfl
      case hs => exact AllReady.nil
      have b22 := bl_alloc b21 (.cells #[] 26)
      have o22 := own_empty (B := W0.heap.size) (X := (w1.drew).alloc (.cells (bvs id).toArray 26)) b21.size
      have s22 := Sl.below s21 (bl_self ((w1.drew).alloc (.cells (bvs id).toArray 26)) (.cells #[] 26))
      (try simp only [Act.put, List.setIfInBounds_toArray, List.set_cons_succ, List.set_cons_zero])
      refine wpAny_ready (rs := [4]) (by decide +kernel) (by simp) ?_
      apply ready_app38 (s := .tmp 16) (x := .tmp 19) (B := W0.heap.size) (hown := o22) (A := A) (m := k) (c := c) (news := idc (l.take k)) (hl := HLT.out) (hA := HAT.out.below b22) (h1 := idc_one _) (hbd := by omega) (hB := b22.size)
      case ho => (simp only [List.getElem?_toArray, List.getElem?_cons_succ, List.getElem?_cons_zero]; rfl)
      case hgd => rfl
      case hop => rfl
      case hs => rfl
      case hx => rfl
      case hrs => exact AllReady.nil
      intro v23 x23 q23 p23
      have b23 := bl_kp b22 p23 (Win.block o22)
      have s23 := Sl.kp s22 p23 (fun ad e h => by injection e with e; subst e; simp [Value.ownBlock] at h)
      (try simp only [Act.put, List.setIfInBounds_toArray, List.set_cons_succ, List.set_cons_zero])
      refine wpAny_ready (rs := [7]) (by decide +kernel) (by simp) ?_
      apply ready_app38 (s := .tmp 20) (x := .tmp 22) (B := W0.heap.size) (hown := q23) (m := 1) (c := 1) (news := bvs id) (hl := by rw [bvs_length, HID.out]) (hA := s23) (h1 := bvs_one id) (hbd := by omega) (hB := b23.size)
      case ho => (simp only [List.getElem?_toArray, List.getElem?_cons_succ, List.getElem?_cons_zero]; rfl)
      case hgd => rfl
      case hop => rfl
      case hs => rfl
      case hx => rfl
      case hrs => exact AllReady.nil
      intro v24 x24 q24 p24
      have b24 := bl_kp b23 p24 (Win.block q23)
      (try simp only [Act.put, List.setIfInBounds_toArray, List.set_cons_succ, List.set_cons_zero])
      apply wpAny_take (i := 8)
      case hi => (simp only [List.getElem?_toArray, List.getElem?_cons_succ, List.getElem?_cons_zero]; rfl)
      case hs => decide +kernel
      case hf => decide +kernel
      case hr => decide +kernel
      case hQ => exact fun _ _ _ h => h
      case hy => exact Or.inl ⟨by rfl, by intro w; go_simp; (try with_reducible rfl)⟩
      (try simp only [Act.put, List.setIfInBounds_toArray, List.set_cons_succ, List.set_cons_zero])
      refine wpAny_done (by kernel_rfl) ?_ _
      go_wp2
      go_meet
      case rel => exact ⟨by simpa using q24, b24⟩
    case rest =>
      obtain ⟨hwin, hbx⟩ := hcut
      have e : putI l id = l.take k ++ [id] ++ l.drop k := by unfold putI; rw [if_neg (by rw [← HR.out]; exact Bool.false_ne_true), ← HK.out]
      have ec : idc (putI l id) = idc (l.take k) ++ bvs id ++ idc (l.drop k) := by rw [e]; unfold idc; simp
      have el : (putI l id).length = k + 1 + (n - k) := by rw [e]; simp only [List.length_append, List.length_take, List.length_drop, List.length_cons, List.length_nil, ← HN.out]; omega
      have d20 : All20 (l.drop k) := fun x hx => H20.out x (List.mem_of_mem_drop hx)
      have hdl : (idc (l.drop k)).length = (n - k) * 20 := by rw [idc_len _ d20, List.length_drop, ← HN.out]
      have eidc : idc l = idc (l.take k) ++ idc (l.drop k) := by unfold idc; rw [← List.flatMap_append, List.take_append_drop]
      have hsrc : ∀ A2, A2 = cutA A c k 20 → Sl wc A2 (idc (l.drop k)) := fun A2 h => by
        subst h
        have := Sl.cut (HA0.out.below hbx) k c 20 (by rw [idc_len l H20.out, ← HN.out]; exact Nat.mul_le_mul_right 20 hc)
        rwa [eidc, List.drop_append_of_le_length (by rw [HLT.out]; exact Nat.le_refl _), List.drop_of_length_le (by rw [HLT.out]; exact Nat.le_refl _), List.nil_append] at this
      have HS := Lib.hid hsrc; have HW := Lib.hid hwin; have HEC := Lib.hid ec; have HEL := Lib.hid el; have HDL := Lib.hid hdl
      have hbs := hbx.size
      clear hsrc hwin e ec el d20 hdl eidc
      by_cases hck : c = k
      · go_wp2_with (at_builtin
                     refine wpList_appW rfl (.tmp 24) (.tmp 27) 52 52 rfl W0.heap.size 26 (idv zs20) 20 20 Tryz.underlying52 Tryz.info22 (by show (bvs zs20).toArray.size = 20; simp [zs20_len]) (by decide) _ (k + 1) _ rfl HW.out (.slice A (n - k) 0) (n - k) (idc (l.drop k)) rfl (srcOf Tryz.underlying52 (by decide) HDL.out (HS.out A (by unfold cutA; rw [if_pos hck])) (idc_one _)) (by omega) (by unfold maxLen; omega) hbs ?_
                     intro v2 w2 hw2 hk2 ho2)
        go_ret
        obtain ⟨A2, c2, hv, hc2, _, hs2⟩ := hw2.reads
        exact ⟨A2, c2, by rw [HEL.out, ← hv]; rfl, by rw [HEL.out]; exact hc2, by rw [HEC.out]; exact hs2, Hb0.out.trans ((bl_kp hbx hk2 (Win.block HW.out)).mono Hb0.out.size), .inr (fun ad e => by
          subst e
          have := Win.block hw2 ad.block (by rw [hv]; rfl)
          have := Hb0.out.size
          omega)⟩
      · go_wp2_with (at_builtin
                     refine wpList_appW rfl (.tmp 24) (.tmp 27) 52 52 rfl W0.heap.size 26 (idv zs20) 20 20 Tryz.underlying52 Tryz.info22 (by show (bvs zs20).toArray.size = 20; simp [zs20_len]) (by decide) _ (k + 1) _ rfl HW.out (.slice (A.map (fun x => x.add (k * 20))) (n - k) (c - k)) (n - k) (idc (l.drop k)) rfl (srcOf Tryz.underlying52 (by decide) HDL.out (HS.out _ (by unfold cutA; rw [if_neg hck])) (idc_one _)) (by omega) (by unfold maxLen; omega) hbs ?_
                     intro v2 w2 hw2 hk2 ho2)
        go_ret
        obtain ⟨A2, c2, hv, hc2, _, hs2⟩ := hw2.reads
        exact ⟨A2, c2, by rw [HEL.out, ← hv]; rfl, by rw [HEL.out]; exact hc2, by rw [HEC.out]; exact hs2, Hb0.out.trans ((bl_kp hbx hk2 (Win.block HW.out)).mono Hb0.out.size), .inr (fun ad e => by
          subst e
          have := Win.block hw2 ad.block (by rw [hv]; rfl)
          have := Hb0.out.size
          omega)⟩
end
section
open Go.RowKit
open Go.Sort (ltStr)
set_option maxRecDepth 100000
set_option linter.unusedVariables false
theorem ris_lt {l : List (List UInt8)} (h : Ris l) {i j : Nat} (hij : i < j) (hj : j < l.length) : l.getD i [] < l.getD j [] := by
  rw [List.getD_eq_getElem?_getD, List.getD_eq_getElem?_getD, List.getElem?_eq_getElem (by omega), List.getElem?_eq_getElem hj]
  exact List.pairwise_iff_getElem.1 h i j (by omega) hj hij
theorem mono_t {l : List (List UInt8)} (h : Ris l) {id : List UInt8} {i j : Nat} (hij : i ≤ j) (hj : j < l.length) (ht : ltStr (l.getD j []) id = true) : ltStr (l.getD i []) id = true := by
  rcases Nat.lt_or_eq_of_le hij with g | g
  · have := ris_lt h g hj
    simp only [ltStr, decide_eq_true_eq] at ht ⊢
    exact List.lt_trans this ht
  · rw [g]; exact ht
theorem mono_f {l : List (List UInt8)} (h : Ris l) {id : List UInt8} {i j : Nat} (hij : i ≤ j) (hj : j < l.length) (ht : ltStr (l.getD i []) id = false) : ltStr (l.getD j []) id = false := by
  cases hq : ltStr (l.getD j []) id with
  | false => rfl
  | true => rw [mono_t h hij hj hq] at ht; cases ht
theorem fk_spec : ∀ (l : List (List UInt8)) (id : List UInt8), (∀ j, j < fk l id → ltStr (l.getD j []) id = true) ∧ (fk l id < l.length → ltStr (l.getD (fk l id) []) id = false)
  | [], id => by simp [fk]
  | x :: l, id => by
    obtain ⟨h1, h2⟩ := fk_spec l id
    cases hq : ltStr x id with
    | false =>
      have e : fk (x :: l) id = 0 := by unfold fk; rw [List.takeWhile_cons, hq]; rfl
      rw [e]
      exact ⟨fun j hj => by omega, fun _ => by simpa using hq⟩
    | true =>
      have e : fk (x :: l) id = fk l id + 1 := by unfold fk; rw [List.takeWhile_cons, hq]; rfl
      rw [e]
      refine ⟨fun j hj => ?_, fun h => by simpa using h2 (by simpa using h)⟩
      cases j with
      | zero => simpa using hq
      | succ j => simpa using h1 j (by omega)
theorem mem_getD {l : List (List UInt8)} {x : List UInt8} (h : x ∈ l) : ∃ j, j < l.length ∧ l.getD j [] = x := by
  obtain ⟨j, hj, e⟩ := List.mem_iff_getElem.1 h
  exact ⟨j, hj, by rw [List.getD_eq_getElem?_getD, List.getElem?_eq_getElem hj]; exact e⟩
theorem take_mem {l : List (List UInt8)} {k : Nat} {x : List UInt8} (h : x ∈ l.take k) : ∃ j, j < k ∧ j < l.length ∧ l.getD j [] = x := by
  obtain ⟨j, hj, e⟩ := List.mem_iff_getElem.1 h
  rw [List.length_take] at hj
  refine ⟨j, by omega, by omega, ?_⟩
  rw [List.getElem_take] at e
  rw [List.getD_eq_getElem?_getD, List.getElem?_eq_getElem (by omega)]
  exact e
theorem drop_mem {l : List (List UInt8)} {k : Nat} {x : List UInt8} (h : x ∈ l.drop k) : ∃ j, k ≤ j ∧ j < l.length ∧ l.getD j [] = x := by
  obtain ⟨j, hj, e⟩ := List.mem_iff_getElem.1 h
  rw [List.length_drop] at hj
  refine ⟨k + j, by omega, by omega, ?_⟩
  rw [List.getElem_drop] at e
  rw [List.getD_eq_getElem?_getD, List.getElem?_eq_getElem (by omega)]
  exact e
theorem put_ris {l : List (List UInt8)} (h : Ris l) (id : List UInt8) : Ris (putI l id) ∧ ∀ x, x ∈ putI l id ↔ x ∈ l ∨ x = id := by
  obtain ⟨s1, s2⟩ := fk_spec l id
  unfold putI
  split
  next hf =>
    have hf2 := of_decide_eq_true hf
    refine ⟨h, fun x => ⟨.inl, fun hx => ?_⟩⟩
    rcases hx with hx | rfl
    · exact hx
    · have hk := hf2.1
      have e := hf2.2
      rw [List.getD_eq_getElem?_getD, List.getElem?_eq_getElem hk] at e
      have e : l[fk l x] = x := e
      have hm := List.getElem_mem hk
      rwa [e] at hm
  next hf =>
    have hle := fk_le l id
    have hgt : ∀ x ∈ l.drop (fk l id), id < x := fun x hx => by
      obtain ⟨j, h1, h2, rfl⟩ := drop_mem hx
      have h3 := mono_f h h1 h2 (s2 (by omega))
      simp only [ltStr, decide_eq_false_iff_not, List.not_lt] at h3
      by_cases e : l.getD j [] = id
      · exfalso
        rcases Nat.lt_or_eq_of_le h1 with g | g
        · have h4 := ris_lt h g h2
          have h5 := s2 (by omega)
          simp only [ltStr, decide_eq_false_iff_not, List.not_lt] at h5
          rw [e] at h4
          exact absurd h4 (List.not_lt.2 h5)
        · apply hf
          unfold fis
          rw [g]
          exact decide_eq_true ⟨by rw [← g] at h2 ⊢; exact h2, by rw [← g] at e ⊢; exact e⟩
      · by_cases g : id < l.getD j []
        · exact g
        · exact absurd (List.le_antisymm (List.not_lt.1 g) h3) e
    refine ⟨?_, fun x => ?_⟩
    · refine List.pairwise_append.2 ⟨List.pairwise_append.2 ⟨h.sublist (List.take_sublist _ _), List.pairwise_singleton _ _, fun x hx y hy => ?_⟩, h.sublist (List.drop_sublist _ _), fun x hx y hy => ?_⟩
      · rw [List.mem_singleton] at hy
        subst hy
        obtain ⟨j, h1, _, rfl⟩ := take_mem hx
        simpa [ltStr] using s1 j h1
      · rcases List.mem_append.1 hx with hx | hx
        · obtain ⟨j, h1, _, rfl⟩ := take_mem hx
          obtain ⟨i, g1, g2, rfl⟩ := drop_mem hy
          exact ris_lt h (by omega) g2
        · rw [List.mem_singleton] at hx
          subst hx
          exact hgt y hy
    · have : x ∈ l ↔ x ∈ l.take (fk l id) ∨ x ∈ l.drop (fk l id) := by rw [← List.mem_append, List.take_append_drop]
      simp only [List.mem_append, List.mem_singleton, this]
      constructor
      · rintro ((h | h) | h)
        · exact .inl (.inl h)
        · exact .inr h
        · exact .inl (.inr h)
      · rintro ((h | h) | h)
        · exact .inl (.inl h)
        · exact .inr h
        · exact .inl (.inr h)
theorem put_20 {l : List (List UInt8)} (h : All20 l) {id : List UInt8} (hid : id.length = 20) : All20 (putI l id) := by
  intro x hx
  unfold putI at hx
  split at hx
  · exact h x hx
  · rcases List.mem_append.1 hx with hx | hx
    · rcases List.mem_append.1 hx with hx | hx
      · exact h x (List.mem_of_mem_take hx)
      · rw [List.mem_singleton] at hx; subst hx; exact hid
    · exact h x (List.mem_of_mem_drop hx)
theorem put_len (l : List (List UInt8)) (id : List UInt8) : (putI l id).length ≤ l.length + 1 := by
  have := fk_le l id
  unfold putI
  split
  · omega
  · simp only [List.length_append, List.length_take, List.length_drop, List.length_cons, List.length_nil]; omega
end
section
open Go.RowKit
set_option maxRecDepth 100000
set_option maxHeartbeats 4000000
set_option linter.unusedVariables false
def treeI (l : List En) : List (List UInt8) := (l.filter (fun e => e.mode != 57344)).map (·.id)
theorem treeI_step {l : List En} {i : Nat} {e : En} (h : l[i]? = some e) : treeI (l.take (i + 1)) = treeI (l.take i) ++ (if e.mode = 57344 then [] else [e.id]) := by
  rw [List.take_add_one, h]
  unfold treeI
  rw [List.filter_append, List.map_append]
  congr 1
  by_cases hm : e.mode = 57344
  · simp [hm]
  · simp [hm]
theorem treeI_len (l : List En) : (treeI l).length ≤ l.length := by
  unfold treeI
  rw [List.length_map]
  exact List.length_filter_le _ _
theorem treeI_20 {l : List En} (h : EAll l) : All20 (treeI l) := fun x hx => by
  obtain ⟨e, he, rfl⟩ := List.mem_map.1 hx
  exact h e (List.mem_filter.1 he).1
theorem decTr_few (b : List UInt8) : 22 * (decTr b).1.length ≤ b.length := by
  rw [decTr_eq]
  by_cases hl : 16384 < b.length
  · rw [if_pos hl]; simp
  rw [if_neg hl]
  cases h : entsF b with
  | none => simp
  | some l =>
    dsimp only
    by_cases h1 : ordE [] l = false
    · rw [if_pos h1]; simp
    · rw [if_neg h1]
      by_cases h2 : 512 < l.length
      · rw [if_pos h2]; simp
      · rw [if_neg h2]
        exact (ents_len _ _ _ h).1
theorem check_tree (b : List UInt8) (hb : b.length ≤ 16384) (A : Option Addr) (cap : Nat) (hcap : b.length ≤ cap) (h0 : A = none → cap = 0) (w : World) (hg : Gb w) (hz : Gz w) (hA : Bs w A b) :
    Calls Tryz.prog 42 #[.int .i64 2, .slice A b.length cap] w fun e w' => e = .returned (.int .i64 ((decTr b).2 : Nat)) ∧ Below w.heap.size w w' := by
  have kw : ∀ w, Calls Tryz.prog 16 #[.int .i64 2] w fun e w' => e = .returned (.string ⟨#[116, 114, 101, 101]⟩) ∧ w = w' := fun w => oword_any 2 w
  have kd := decTr_any b hb A cap hcap h0 w hg hz hA
  obtain ⟨n, hn⟩ : ∃ n, n = b.length := ⟨_, rfl⟩
  rw [← hn] at kd ⊢
  have hn1 : n ≤ 16384 := by omega
  obtain ⟨c, hc⟩ : ∃ c, c = (decTr b).1 := ⟨_, rfl⟩
  obtain ⟨er, her⟩ : ∃ er, er = (decTr b).2 := ⟨_, rfl⟩
  rw [← hc, ← her] at kd
  rw [← her]
  clear hn hc her hb hA hg hz hcap h0
  go_enter Tryz.func42, Tryz.ntmps42
  go_wp2_with (first
    | (go_at_call 16; (with_reducible refine (kw _).mono ?_); rintro e w1 ⟨rfl, rfl⟩)
    | (go_at_call 34; (with_reducible refine kd.mono ?_); rintro e w2 ⟨⟨A2, c2, rfl, _, _⟩, hb2⟩))
  go_ret
  exact ⟨rfl, hb2⟩
theorem tedges_any (b : List UInt8) (hb : b.length ≤ 16384) (A : Option Addr) (cap : Nat) (hcap : b.length ≤ cap) (h0 : A = none → cap = 0) (w : World) (hg : Gb w) (hz : Gz w) (hA : Bs w A b) :
    Calls Tryz.prog 85 #[.slice A b.length cap] w (OutL (fun L => L = treeI (decTr b).1) (decTr b).2 w) := by
  have kd := decTr_any b hb A cap hcap h0 w hg hz hA
  have hl := decTr_few b
  have h20 : EAll (decTr b).1 := fun e he => (decTr_good e he).1
  obtain ⟨nb, hnb⟩ : ∃ nb, nb = b.length := ⟨_, rfl⟩
  rw [← hnb] at kd ⊢
  obtain ⟨l, hll⟩ : ∃ l, l = (decTr b).1 := ⟨_, rfl⟩
  obtain ⟨er, her⟩ : ∃ er, er = (decTr b).2 := ⟨_, rfl⟩
  rw [← hll] at kd h20 hl ⊢
  rw [← her] at kd ⊢
  unfold OutN at kd
  obtain ⟨n, hnn⟩ : ∃ n, n = l.length := ⟨_, rfl⟩
  rw [← hnn] at kd hl
  have hn : n ≤ 1000 := by omega
  have HNN := Lib.hid hnn; have HAL := Lib.hid h20
  clear hnn h20 hll her hnb hb hl hcap h0 hg hz hA
  go_enter Tryz.func85, Tryz.ntmps85
  go_upto_block 0 with (go_at_call 34; (with_reducible refine kd.mono ?_); rintro z w1 ⟨⟨A1, c1, rfl, hc1, hs1⟩, hb1⟩)
  have HA := Lib.hid hs1; have B1 := Lib.hid hb1
  clear hs1 hb1 hc1
  go_step
  go_loopw [6, 16] (fun t6 t16 wr => ∃ i : Nat, t16 = .int .i64 (i : Int) ∧ i ≤ n ∧ Hid (Win wr w1.heap.size 27 20 t6 (treeI (l.take i)).length (idc (treeI (l.take i)))) ∧ Hid (Below w1.heap.size w1 wr)) (fun _ t16 _ => (n - intOf t16).toNat)
  case atStart => exact ⟨0, rfl, by omega, Lib.hid (Win.nil _ _ _ _), Lib.hid (Below.refl _ _)⟩
  case round =>
    obtain ⟨i, rfl, hi, HW, HBW⟩ := hrel
    by_cases hin : i < n
    · have hil : i < l.length := by rw [← HNN.out]; exact hin
      obtain ⟨ad, hA1, hse⟩ := Sl.ent HA.out HAL.out hil
      subst hA1
      obtain ⟨e, hee⟩ : ∃ e, e = gtE l i := ⟨_, rfl⟩
      have e20 : e.id.length = 20 := by rw [hee]; exact HAL.out _ (gtE_mem hil)
      have ge : l[i]? = some e := by
        rw [hee]
        unfold gtE
        rw [List.getD_eq_getElem?_getD, List.getElem?_eq_getElem hil]; rfl
      rw [← hee] at hse
      have lx := load_ent e20 (hse.below HBW.out)
      have zi := Lib.hid (infoEn e20); have zs := Lib.hid (zen_size e20); have zo := Lib.hid (ecell_one e)
      have TS := Lib.hid (treeI_step ge)
      have TL : Hid ((treeI (l.take i)).length ≤ 1000) := Lib.hid (by have := treeI_len (l.take i); rw [List.length_take] at this; omega)
      have E20 := Lib.hid e20
      have fl := fold_lit e.id e20
      rw [← zlit] at fl
      clear hse hee ge hil
      go_upto_region 6 with (first
        | (refine wpList_loadG 40 (.tmp 18) rfl (ad.add (i * 22)) rfl _ lx rfl ?_)
        | (simp only [zenlit]; refine wpList_store_row rfl 40 (.tmp 8) (.tmp 19) rfl wr.heap.size (ecell e).toArray rfl rfl 40 zen (heap_alloc_new _ _) zi.out zs.out zo.out ?_))
      obtain ⟨r5, b5⟩ := new_set wr 40 zen (ecell e).toArray
      obtain ⟨W5, hW5⟩ : ∃ W5, W5 = (wr.alloc (.cells zen 40)).setRow wr.heap.size (ecell e).toArray := ⟨_, rfl⟩
      rw [← hW5] at r5 b5
      try simp only [Act.put]
      rw [← hW5]
      have S5 : Sl W5 (some ⟨wr.heap.size, 0, none⟩) (ecell e) := Sl.of_block r5 (fun j v hj => by simpa using hj)
      have cm := en_mode S5
      obtain ⟨m, hm⟩ : ∃ m, m = e.mode := ⟨_, rfl⟩
      rw [← hm] at cm TS
      have LM := load_oneC (T := 3) (fun w => by kernel_rfl) cm
      have SI : Bs W5 (some ⟨wr.heap.size, 2, none⟩) e.id := by
        have := S5.drop 2
        rw [Nat.zero_add] at this
        exact this
      have LI := load_id e.id e20 ⟨wr.heap.size, 2, none⟩ W5 SI
      have W5W := Lib.hid (HW.out.below b5)
      have B5 := Lib.hid (HBW.out.trans (b5.mono HBW.out.size))
      clear r5 b5 hW5 S5 lx zi zs zo cm SI hm e20
      by_cases hlink : m = 57344
      · have q : (m != 57344) = false := by simpa using hlink
        have HW2 : Hid (Win W5 w1.heap.size 27 20 u6 (treeI (l.take (i + 1))).length (idc (treeI (l.take (i + 1))))) := Lib.hid (by
          rw [TS.out, if_pos hlink, List.append_nil]
          exact W5W.out)
        clear hlink TS
        go_wp2_with (refine wpList_loadG 3 (.tmp 20) rfl ⟨wr.heap.size, 0, none⟩ rfl _ LM rfl ?_)
        go_roundw
        case rel => exact ⟨i + 1, by simp, by omega, HW2, B5⟩
        case measure => simp only [intOf]; omega
      · have q : (m != 57344) = true := by simpa using hlink
        have TS2 : Hid (treeI (l.take (i + 1)) = treeI (l.take i) ++ [e.id]) := Lib.hid (by rw [TS.out, if_neg hlink])
        have b6 : Below W5.heap.size W5 (W5.alloc (.cells (bvs e.id).toArray 27)) := (Below.refl _ _).alloc (Nat.le_refl _) _
        have s6 : Sl (W5.alloc (.cells (bvs e.id).toArray 27)) (some ⟨W5.heap.size, 0, none⟩) (idc [e.id]) := by
          have : idc [e.id] = bvs e.id := by simp [idc]
          rw [this]
          exact Sl.of_block (heap_alloc_new _ _) (fun j v hj => by simpa using hj)
        have S6 := Lib.hid s6
        have W6W := Lib.hid (W5W.out.below b6)
        have HB6 : Hid (w1.heap.size ≤ (W5.alloc (.cells (bvs e.id).toArray 27)).heap.size) := Lib.hid (by have := b6.size; have := B5.out.size; omega)
        have B6 := Lib.hid (B5.out.trans (b6.mono B5.out.size))
        have hyl := E20.out
        clear hlink TS s6 b6
        go_wp2_with (first
          | (refine wpList_loadG 3 (.tmp 20) rfl ⟨wr.heap.size, 0, none⟩ rfl _ LM rfl ?_)
          | (refine wpList_loadG 27 (.tmp 24) rfl ⟨wr.heap.size, 2, none⟩ rfl _ LI rfl ?_)
          | (refine wpList_appI rfl (.tmp 23) (.tmp 26) rfl w1.heap.size u6 (treeI (l.take i)) rfl W6W.out (some ⟨W5.heap.size, 0, none⟩) 1 1 [e.id] rfl (fun x hx => by obtain rfl := List.mem_singleton.1 hx; exact E20.out) rfl S6.out (by have := TL.out; simp only [List.length_singleton]; omega) HB6.out ?_
             intro v7 w7 hw7 hk7 ho7))
        have HW7 : Hid (Win w7 w1.heap.size 27 20 v7 (treeI (l.take (i + 1))).length (idc (treeI (l.take (i + 1))))) := Lib.hid (by rw [TS2.out]; exact hw7)
        have B7 := Lib.hid (B6.out.trans (hk7.toBelow HB6.out (fun k hk h => by have := (W6W.out.block _ h).1; omega)))
        clear hw7 hk7 ho7
        go_roundw
        case rel => exact ⟨i + 1, by simp, by omega, HW7, B7⟩
        case measure => simp only [intOf]; omega
    · have hle : i = n := by omega
      have HWF : Hid (Win wr w1.heap.size 27 20 u6 (treeI l).length (idc (treeI l))) := Lib.hid (by
        have := HW.out
        rwa [hle, HNN.out, List.take_length] at this)
      clear hle HW
      obtain ⟨At, ct, rfl, hct, hmt, hst⟩ := HWF.out.reads
      have HZ0 := Lib.hid (win_null HWF.out)
      have HST := Lib.hid hst
      go_wp2
      go_ret2
      exact ⟨⟨At, _, _, ct, rfl, rfl, rfl, hct, HZ0.out, treeI_20 HAL.out, HST.out⟩, B1.out.trans (HBW.out.mono B1.out.size)⟩
theorem edges_tree (b : List UInt8) (hb : b.length ≤ 5600) (A : Option Addr) (cap : Nat) (hcap : b.length ≤ cap) (h0 : A = none → cap = 0) (w : World) (hg : Gb w) (hz : Gz w) (hA : Bs w A b) :
    Calls Tryz.prog 39 #[.int .i64 2, .slice A b.length cap] w (OutL (fun L => if (decTr b).2 = 0 then SrtOf (treeI (decTr b).1) L else L = []) (decTr b).2 w) := by
  have kc := check_tree b (by omega) A cap hcap h0 w hg hz hA
  have ke := fun w' (h : Below w.heap.size w w') => tedges_any b (by omega) A cap hcap h0 w' (hg.below h) (hz.below h) (hA.below h)
  have h20 : EAll (decTr b).1 := fun e he => (decTr_good e he).1
  have hfew := decTr_few b
  obtain ⟨n, hn⟩ : ∃ n, n = b.length := ⟨_, rfl⟩
  rw [← hn] at kc ke hfew ⊢
  obtain ⟨c, hc⟩ : ∃ c, c = (decTr b).1 := ⟨_, rfl⟩
  obtain ⟨er, her⟩ : ∃ er, er = (decTr b).2 := ⟨_, rfl⟩
  rw [← hc] at h20 hfew
  rw [← her] at kc
  rw [← hc, ← her] at ke ⊢
  have hf2 : (treeI c).length < 256 := by have := treeI_len c; omega
  clear hn hc her hb hA hg hz hcap h0 hfew
  by_cases h0 : er = 0
  · have hL : (fun L => if er = 0 then SrtOf (treeI c) L else L = []) = SrtOf (treeI c) := by
      funext L
      rw [if_pos h0]
    rw [hL]
    clear hL
    subst h0
    have ks : ∀ A1 (n1 c1 : Nat) w1 (L : List (List UInt8)), n1 = L.length → L = treeI c → (A1 = none → c1 = 0) → Sl w1 A1 (idc L) → Calls Tryz.prog 88 #[.slice A1 n1 c1] w1 fun e w' => ∃ A' m M, e = .returned (.slice A' m m) ∧ Hid (m = M.length) ∧ SrtOf (treeI c) M ∧ All20 M ∧ Sl w' A' (idc M) ∧ Below w1.heap.size w1 w' := fun A1 n1 c1 w1 L hn1 hL h0 hs => by
      subst hn1
      subst hL
      have h20' : All20 (treeI c) := treeI_20 h20
      refine (sort_all (treeI c) h20' hf2 A1 c1 w1 hs h0).mono ?_
      rintro e w' ⟨A', M, rfl, hS⟩
      exact ⟨A', M.length, M, rfl, Lib.hid rfl, ⟨hS.ris, hS.mem⟩, sorted_20 hS h20', hS.sl, hS.below⟩
    have KS := Lib.hid ks; have KE := Lib.hid ke
    clear ks ke h20 hf2
    go_enter Tryz.func39, Tryz.ntmps39
    go_wp2_with (first
      | (go_at_call 42; (with_reducible refine kc.mono ?_); rintro e w1 ⟨rfl, hb1⟩)
      | (go_at_call 85; (with_reducible refine (KE.out _ hb1).mono ?_); rintro e w2 ⟨⟨A2, n2, L2, c2, rfl, hn2, hL2, hc2, hz2, _, hs2⟩, hb2⟩
         have KS2 := Lib.hid (KS.out A2 n2 c2 w2 L2 hn2 hL2 hz2 hs2)
         clear hn2 hL2 hz2)
      | (go_at_call 88; (with_reducible refine KS2.out.mono ?_); rintro e w3 ⟨A3, m3, M, rfl, hm3, hS3, h203, hs3, hb3⟩))
    go_ret2
    have b2 := hb1.trans (hb2.mono hb1.size)
    refine ⟨⟨A3, m3, M, m3, rfl, hm3.out, hS3, Nat.le_refl _, fun e => ?_, h203, hs3⟩, b2.trans (hb3.mono b2.size)⟩
    subst e
    rw [hm3.out]; exact sl_null hs3 h203
  · have hL : (fun L => if er = 0 then SrtOf (treeI c) L else L = []) = fun L => L = [] := by
      funext L
      rw [if_neg h0]
    rw [hL]
    have hne : ((er : Int) != 0) = true := by simpa using h0
    clear hL h0 ke h20 hf2
    go_enter Tryz.func39, Tryz.ntmps39
    go_wp2_with (first
      | (go_at_call 42; (with_reducible refine kc.mono ?_); rintro e w1 ⟨rfl, hb1⟩))
    go_ret2
    exact ⟨⟨none, 0, [], 0, rfl, rfl, rfl, Nat.le_refl _, fun _ => rfl, fun x hx => by simp at hx, Sl.nil _ _⟩, hb1⟩
theorem parents_any (b : List UInt8) (hb : b.length ≤ 12000) (A : Option Addr) (cap : Nat) (w : World) (hg : Gb w) (hA : Bs w A b) :
    Calls Tryz.prog 44 #[.int .i64 1, .slice A b.length cap] w fun z w' => (∃ A' n' c', z = .returned (.slice A' n' c') ∧ Hid (n' = (decC b).1.parents.length) ∧ Sl w' A' (idc (decC b).1.parents)) ∧ Below w.heap.size w w' := by
  have kd := decC_any b hb A cap w hg hA
  obtain ⟨h20, hp⟩ := decC_20 b
  obtain ⟨n, hn⟩ : ∃ n, n = b.length := ⟨_, rfl⟩
  rw [← hn] at kd ⊢
  obtain ⟨c, hc⟩ : ∃ c, c = (decC b).1 := ⟨_, rfl⟩
  obtain ⟨er, her⟩ : ∃ er, er = (decC b).2 := ⟨_, rfl⟩
  rw [← hc] at h20 hp
  rw [← hc, ← her] at kd
  rw [← hc]
  have H20 := Lib.hid h20; have HP := Lib.hid hp
  clear hn hc her hb hA hg hp h20
  go_enter Tryz.func44, Tryz.ntmps44
  go_upto_region 4 with (first
    | (go_at_call 31; (with_reducible refine kd.mono ?_); rintro e w1 ⟨⟨A1, c1, rfl, hn1, hl1, hs1⟩, hb1⟩
       have zk := Lib.hid (infoC (k := ck c (.slice A1 c.parents.length c1)) H20.out)
       have zl := Lib.hid (zck_size (k := ck c (.slice A1 c.parents.length c1)) H20.out)
       have zo := Lib.hid (ccell_one (k := ck c (.slice A1 c.parents.length c1)) rfl))
    | (simp only [zcklit]; refine wpList_store_row rfl 45 (.tmp 5) (.tmp 12) rfl w1.heap.size (ccell (ck c (.slice A1 c.parents.length c1))).toArray rfl rfl 45 zck (heap_alloc_new _ _) zk.out zl.out zo.out ?_))
  obtain ⟨k, hk⟩ : ∃ k, k = ck c (.slice A1 c.parents.length c1) := ⟨_, rfl⟩
  rw [← hk] at zk zl zo ⊢
  have e20 : k.tree.length = 20 := by rw [hk]; exact H20.out
  obtain ⟨r2, b2⟩ := new_set w1 45 zck (ccell k).toArray
  obtain ⟨W2, hW2⟩ : ∃ W2, W2 = (w1.alloc (.cells zck 45)).setRow w1.heap.size (ccell k).toArray := ⟨_, rfl⟩
  rw [← hW2] at r2 b2
  try simp only [Act.put]
  rw [← hW2]
  have S2 : Sl W2 (some ⟨w1.heap.size, 0, none⟩) (ccell k) := Sl.of_block r2 (fun j v hj => by simpa using hj)
  obtain ⟨q1, _, _, _⟩ := ccell_at e20
  have c20 : W2.cell? ⟨w1.heap.size, 20, none⟩ = some (.slice A1 c.parents.length c1) := by have := ck_at S2 q1; rw [hk] at this; rwa [add_plain, Nat.zero_add] at this
  have hsp := Lib.hid (hs1.below b2)
  have bb2 := Lib.hid (hb1.trans (b2.mono hb1.size))
  clear r2 b2 hW2 S2 q1 hs1 hb1 hk e20
  go_wp2
  go_ret
  exact ⟨⟨A1, _, c1, rfl, Lib.hid rfl, hsp.out⟩, bb2.out⟩
end
section
open Go.RowKit
set_option maxRecDepth 100000
set_option maxHeartbeats 1000000
set_option linter.unusedVariables false
def nmE (i : Nat) : List UInt8 := [110, UInt8.ofNat (97 + i)]
def eI (l : List (List UInt8)) (k : List Bool) (i : Nat) : En := ⟨if k.getD i false = true then 57344 else 33188, nmE i, l.getD i []⟩
def rowsE (l : List (List UInt8)) (k : List Bool) (n : Nat) : List En := (List.range n).map (eI l k)
def wantI (l : List (List UInt8)) (k : List Bool) : Nat → List (List UInt8)
  | 0 => []
  | i + 1 => if k.getD i false = true then wantI l k i else putI (wantI l k i) (l.getD i [])
def parI (l : List (List UInt8)) : Nat → List (List UInt8)
  | 0 => []
  | i + 1 => if l.getD i [] ∈ parI l i then parI l i else parI l i ++ [l.getD i []]
def allI (l : List (List UInt8)) : Nat → List (List UInt8)
  | 0 => [zs20]
  | i + 1 => putI (allI l i) (l.getD i [])
theorem rowsE_len (l : List (List UInt8)) (k : List Bool) (n : Nat) : (rowsE l k n).length = n := by simp [rowsE]
theorem rowsE_succ (l : List (List UInt8)) (k : List Bool) (n : Nat) : rowsE l k (n + 1) = rowsE l k n ++ [eI l k n] := by simp [rowsE, List.range_succ]
theorem at20 {l : List (List UInt8)} (h : All20 l) {i : Nat} (hi : i < l.length) : (l.getD i []).length = 20 := by
  rw [List.getD_eq_getElem?_getD, List.getElem?_eq_getElem hi]
  exact h _ (List.getElem_mem hi)
theorem rowsE_20 {l : List (List UInt8)} (h : All20 l) (k : List Bool) {n : Nat} (hn : n ≤ l.length) : EAll (rowsE l k n) := fun e he => by
  obtain ⟨i, hi, rfl⟩ := List.mem_map.1 he
  exact at20 h (by have := List.mem_range.1 hi; omega)
theorem rowsE_at (l : List (List UInt8)) (k : List Bool) (n i : Nat) (h : i < n) : gtE (rowsE l k n) i = eI l k i := by
  unfold gtE rowsE
  rw [List.getD_eq_getElem?_getD]
  simp [h]
theorem rowsE_take (l : List (List UInt8)) (k : List Bool) (n i : Nat) (h : i ≤ n) : (rowsE l k n).take i = rowsE l k i := by
  unfold rowsE
  rw [← List.map_take, List.take_range, Nat.min_eq_left h]
theorem nmE_lt : ∀ i < 20, ∀ j < 20, i < j → nmE i < nmE j := by decide +kernel
theorem nmE_ok : ∀ i < 20, namedI (nmE i) = true := by decide +kernel
theorem nmE_ne {i j : Nat} (hi : i < 20) (hj : j < 20) (h : i < j) : nmE i ≠ nmE j := fun e => by
  have := nmE_lt i hi j hj h
  rw [e] at this
  exact List.lt_irrefl _ this
theorem eI_mode (l : List (List UInt8)) (k : List Bool) (i : Nat) : (eI l k i).mode ≠ 16384 ∧ modeD (eI l k i).mode ≠ [] ∧ ((eI l k i).mode = 57344 ↔ k.getD i false = true) := by
  unfold eI
  dsimp only
  by_cases h : k.getD i false = true
  · rw [if_pos h]; exact ⟨by decide, by decide, fun _ => h, fun _ => rfl⟩
  · rw [if_neg h]; exact ⟨by decide, by decide, fun e => absurd e (by decide), fun e => absurd e h⟩
theorem eI_key (l : List (List UInt8)) (k : List Bool) (i : Nat) : keyI (eI l k i).mode (eI l k i).name = nmE i := by
  unfold keyI
  rw [if_neg (eI_mode l k i).1]
  rfl
theorem oI_rows (l : List (List UInt8)) (k : List Bool) {i j : Nat} (hi : i < 20) (hj : j < 20) (h : i < j) : oI (eI l k i) (eI l k j) = -1 := by
  unfold oI
  rw [eI_key, eI_key]
  unfold ordI
  rw [if_pos (nmE_lt i hi j hj h)]
theorem ordE_rows (l : List (List UInt8)) (k : List Bool) (n : Nat) (hn : n ≤ 20) : ∀ m i, i + m = n → ordE ((rowsE l k n).take i) ((rowsE l k n).drop i) = true
  | 0, i, h => by
    have : i = n := by omega
    subst this
    rw [List.drop_of_length_le (by rw [rowsE_len]; exact Nat.le_refl _)]
    rfl
  | m + 1, i, h => by
    have hi : i < (rowsE l k n).length := by rw [rowsE_len]; omega
    rw [ordE_step hi, ordE_rows l k n hn m (i + 1) (by omega), Bool.and_true]
    have hno : ((((rowsE l k n).take i).map (·.name)).contains (gtE (rowsE l k n) i).name) = false := by
      rw [rowsE_at l k n i (by omega), rowsE_take l k n i (by omega)]
      have : (eI l k i).name ∉ (rowsE l k i).map (·.name) := fun hm => by
        obtain ⟨x, hx, hxe⟩ := List.mem_map.1 hm
        obtain ⟨j, hj, rfl⟩ := List.mem_map.1 hx
        have hj := List.mem_range.1 hj
        exact nmE_ne (by omega) (by omega) hj hxe
      simpa using this
    cases i with
    | zero => unfold ordQ; rw [hno]; rfl
    | succ j =>
      rw [ordQ_eq (by omega), hno, rowsE_at l k n j (by omega), rowsE_at l k n (j + 1) (by omega), oI_rows l k (by omega) (by omega) (by omega)]
      rfl
theorem enc_rows {l : List (List UInt8)} (h20 : All20 l) (k : List Bool) {n : Nat} (hn : n ≤ 20) (hl : n ≤ l.length) : encTr (rowsE l k n) = (treeB (rowsE l k n), 0) ∧ (treeB (rowsE l k n)).length ≤ 5600 ∧ decTr (treeB (rowsE l k n)) = (rowsE l k n, 0) := by
  have hok : ∀ e ∈ rowsE l k n, okE e = true := fun e he => by
    obtain ⟨i, hi, rfl⟩ := List.mem_map.1 he
    have hi := List.mem_range.1 hi
    exact okE_iff.2 ⟨(eI_mode l k i).2.1, nmE_ok i (by omega)⟩
  have hlen : (treeB (rowsE l k n)).length ≤ 5600 := by
    have := tree_le (rowsE l k n) (fun e he => ⟨hok e he, rowsE_20 h20 k hl e he⟩)
    rw [rowsE_len] at this
    omega
  have hall : (rowsE l k n).all okE = true := List.all_eq_true.2 hok
  have hord : ordE [] (rowsE l k n) = true := ordE_rows l k n hn n 0 (by omega)
  have he : encTr (rowsE l k n) = (treeB (rowsE l k n), 0) := by
    unfold encTr
    rw [if_neg (by rw [rowsE_len, hall]; simp; omega), if_neg (by rw [hord]; decide), if_neg (by omega)]
  exact ⟨he, hlen, decTr_encTr (rowsE_20 h20 k hl) (by rw [he])⟩
theorem want_ok {l : List (List UInt8)} (h20 : All20 l) (k : List Bool) : ∀ i, i ≤ l.length → Ris (wantI l k i) ∧ All20 (wantI l k i) ∧ (wantI l k i).length ≤ i ∧ ∀ x, x ∈ wantI l k i ↔ ∃ j, j < i ∧ k.getD j false = false ∧ x = l.getD j []
  | 0, _ => ⟨List.Pairwise.nil, fun x hx => by simp [wantI] at hx, by simp [wantI], fun x => ⟨fun h => by simp [wantI] at h, fun ⟨j, h, _⟩ => by omega⟩⟩
  | i + 1, hi => by
    obtain ⟨h1, h2, h3, h4⟩ := want_ok h20 k i (by omega)
    unfold wantI
    cases hk : k.getD i false with
    | true =>
      rw [if_pos rfl]
      refine ⟨h1, h2, by omega, fun x => (h4 x).trans ⟨fun ⟨j, a, b⟩ => ⟨j, by omega, b⟩, fun ⟨j, a, b, c⟩ => ⟨j, ?_, b, c⟩⟩⟩
      by_cases e : j = i
      · subst e; rw [hk] at b; cases b
      · omega
    | false =>
      rw [if_neg (by decide)]
      obtain ⟨p1, p2⟩ := put_ris h1 (l.getD i [])
      refine ⟨p1, put_20 h2 (at20 h20 (by omega)), by have := put_len (wantI l k i) (l.getD i []); omega, fun x => (p2 x).trans ⟨?_, ?_⟩⟩
      · rintro (h | h)
        · obtain ⟨j, a, b⟩ := (h4 x).1 h
          exact ⟨j, by omega, b⟩
        · exact ⟨i, by omega, hk, h⟩
      · rintro ⟨j, a, b, c⟩
        by_cases e : j = i
        · subst e; exact .inr c
        · exact .inl ((h4 x).2 ⟨j, by omega, b, c⟩)
theorem tree_rows (l : List (List UInt8)) (k : List Bool) (n : Nat) (x : List UInt8) : x ∈ treeI (rowsE l k n) ↔ ∃ j, j < n ∧ k.getD j false = false ∧ x = l.getD j [] := by
  unfold treeI rowsE
  simp only [List.mem_map, List.mem_filter, List.mem_range]
  constructor
  · rintro ⟨e, ⟨⟨j, hj, rfl⟩, hm⟩, rfl⟩
    refine ⟨j, hj, ?_, rfl⟩
    cases hk : k.getD j false with
    | false => rfl
    | true =>
      have := ((eI_mode l k j).2.2).2 hk
      rw [this] at hm
      cases hm
  · rintro ⟨j, hj, hk, rfl⟩
    refine ⟨eI l k j, ⟨⟨j, hj, rfl⟩, ?_⟩, rfl⟩
    have : (eI l k j).mode ≠ 57344 := fun e => by
      have := ((eI_mode l k j).2.2).1 e
      rw [hk] at this
      cases this
    simpa using this
theorem want_is {l : List (List UInt8)} (h20 : All20 l) (k : List Bool) {L : List (List UInt8)} (h : SrtOf (treeI (rowsE l k l.length)) L) : L = wantI l k l.length := by
  obtain ⟨h1, _, _, h4⟩ := want_ok h20 k l.length (Nat.le_refl _)
  exact ris_unique _ _ h.1 h1 (fun x => ((h.2 x).trans (tree_rows l k l.length x)).trans (h4 x).symm)
theorem par_ok {l : List (List UInt8)} (h20 : All20 l) : ∀ i, i ≤ l.length → (parI l i).Nodup ∧ All20 (parI l i) ∧ (parI l i).length ≤ i ∧ ∀ x, x ∈ parI l i ↔ ∃ j, j < i ∧ x = l.getD j []
  | 0, _ => ⟨List.Pairwise.nil, fun x hx => by simp [parI] at hx, by simp [parI], fun x => ⟨fun h => by simp [parI] at h, fun ⟨j, h, _⟩ => by omega⟩⟩
  | i + 1, hi => by
    obtain ⟨h1, h2, h3, h4⟩ := par_ok h20 i (by omega)
    unfold parI
    by_cases hm : l.getD i [] ∈ parI l i
    · rw [if_pos hm]
      refine ⟨h1, h2, by omega, fun x => ⟨fun h => ?_, fun ⟨j, a, b⟩ => ?_⟩⟩
      · obtain ⟨j, a, b⟩ := (h4 x).1 h
        exact ⟨j, by omega, b⟩
      · by_cases e : j = i
        · subst e; rw [b]; exact hm
        · exact (h4 x).2 ⟨j, by omega, b⟩
    · rw [if_neg hm]
      refine ⟨?_, fun x hx => ?_, by simp only [List.length_append, List.length_singleton]; omega, fun x => ⟨fun h => ?_, fun ⟨j, a, b⟩ => ?_⟩⟩
      · rw [List.nodup_append]
        refine ⟨h1, by simp, fun a ha b hb e => ?_⟩
        rw [List.mem_singleton] at hb
        subst hb
        subst e
        exact hm ha
      · rcases List.mem_append.1 hx with h | h
        · exact h2 x h
        · obtain rfl := List.mem_singleton.1 h
          exact at20 h20 (by omega)
      · rcases List.mem_append.1 h with h | h
        · obtain ⟨j, a, b⟩ := (h4 x).1 h
          exact ⟨j, by omega, b⟩
        · exact ⟨i, by omega, List.mem_singleton.1 h⟩
      · by_cases e : j = i
        · subst e; rw [b]; simp
        · exact List.mem_append.2 (.inl ((h4 x).2 ⟨j, by omega, b⟩))
theorem all_ok {l : List (List UInt8)} (h20 : All20 l) : ∀ i, i ≤ l.length → Ris (allI l i) ∧ All20 (allI l i) ∧ (allI l i).length ≤ i + 1 ∧ ∀ x, x ∈ allI l i ↔ x = zs20 ∨ ∃ j, j < i ∧ x = l.getD j []
  | 0, _ => ⟨List.pairwise_singleton _ _, fun x hx => by obtain rfl := List.mem_singleton.1 hx; exact zs20_len, by simp [allI], fun x => by simp [allI]⟩
  | i + 1, hi => by
    obtain ⟨h1, h2, h3, h4⟩ := all_ok h20 i (by omega)
    unfold allI
    obtain ⟨p1, p2⟩ := put_ris h1 (l.getD i [])
    refine ⟨p1, put_20 h2 (at20 h20 (by omega)), by have := put_len (allI l i) (l.getD i []); omega, fun x => (p2 x).trans ⟨?_, ?_⟩⟩
    · rintro (h | h)
      · rcases (h4 x).1 h with h | ⟨j, a, b⟩
        · exact .inl h
        · exact .inr ⟨j, by omega, b⟩
      · exact .inr ⟨i, by omega, h⟩
    · rintro (h | ⟨j, a, b⟩)
      · exact .inl ((h4 x).2 (.inl h))
      · by_cases e : j = i
        · subst e; exact .inr b
        · exact .inl ((h4 x).2 (.inr ⟨j, by omega, b⟩))
def cmE0 (l : List (List UInt8)) (n : Nat) : Cm := ⟨zs20, parI l n, [97], [98], []⟩
theorem all_is {l : List (List UInt8)} (h20 : All20 l) {L : List (List UInt8)} (h : SrtOf (zs20 :: parI l l.length) L) : L = allI l l.length := by
  obtain ⟨h1, _, _, h4⟩ := all_ok h20 l.length (Nat.le_refl _)
  obtain ⟨_, _, _, g4⟩ := par_ok h20 l.length (Nat.le_refl _)
  exact ris_unique _ _ h.1 h1 (fun x => by rw [h.2 x, h4 x, List.mem_cons, g4 x])
theorem enc_par {l : List (List UInt8)} (h20 : All20 l) (hn : l.length ≤ 20) : encC (cmE0 l l.length) = (cmB (cmE0 l l.length), 0) ∧ (cmB (cmE0 l l.length)).length ≤ 12000 ∧ decC (cmB (cmE0 l l.length)) = (cmE0 l l.length, 0) := by
  obtain ⟨g1, g2, g3, _⟩ := par_ok h20 l.length (Nat.le_refl _)
  have hw : wrongC (cmE0 l l.length) = false := by
    have e1 : textI [97] 200 = true := by decide
    have e2 : textI [98] 200 = true := by decide
    unfold wrongC cmE0
    dsimp only
    rw [e1, e2, decide_eq_false (by omega), decide_eq_true g1]
    rfl
  have hlen : (cmB (cmE0 l l.length)).length ≤ 12000 := by
    have hsz := parB_size (parI l l.length) g2
    rw [cmB_eq, List.length_append, List.length_append]
    have : (cmH (cmE0 l l.length)).length ≤ 100 := (by decide +kernel : (cmH ⟨zs20, [], [97], [98], []⟩).length ≤ 100)
    have : (cmE (cmE0 l l.length)).length ≤ 100 := (by decide +kernel : (cmE ⟨zs20, [], [97], [98], []⟩).length ≤ 100)
    rw [show (cmE0 l l.length).parents = parI l l.length from rfl, hsz]
    omega
  have he : encC (cmE0 l l.length) = (cmB (cmE0 l l.length), 0) := by
    unfold encC
    rw [if_neg (by rw [hw]; decide), if_neg (by omega)]
  obtain ⟨_, hd⟩ := decC_encC (cmE0 l l.length) zs20_len g2 (by rw [he])
  exact ⟨he, hlen, hd⟩
end
section
open Go.RowKit Go.ChangeShapes Go.WideShapes
set_option maxRecDepth 100000
set_option linter.unusedVariables false
theorem bools_of_trod {H : Type} {enc : TypeId × Value → H} {w : World} {base : Nat} {held : Bool} {fuel : Nat} {A : Option Addr} {n c : Nat} {x : DataW H × List MemPlace}
    (h : DataW.trod enc Tryz.prog w base (fun _ => true) held fuel 97 [.slice A n c] = some x) : ∃ l : List Bool, n = l.length ∧ l.length ≤ c ∧ c ≤ maxLen ∧ Sl w A (l.map Value.bool) := by
  rcases Go.Deep.open_bools Tryz.underlying97 Tryz.underlying4 (by kernel_rfl) h with ⟨hcs, _⟩ | ⟨a, len, cap, B, hcs, _, hl, hm, _, hcell⟩
  · simp at hcs
    obtain ⟨rfl, rfl, rfl⟩ := hcs
    exact ⟨[], rfl, by simp, by simp, Sl.nil _ _⟩
  · simp at hcs
    obtain ⟨rfl, rfl, rfl⟩ := hcs
    refine ⟨(List.range n).map B, by simp, by simpa using hl, hm, fun j v hj => ⟨a, rfl, ?_⟩⟩
    have hjl : j < n := by have := (List.getElem?_eq_some_iff.1 hj).1; simpa using this
    rw [List.map_map, List.getElem?_map, List.getElem?_range hjl] at hj
    injection hj with hj
    subst hj
    exact hcell j (by omega)
end
end Go.Proofs.YtcedfapcpmedfaaGreatDoor
