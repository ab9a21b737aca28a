/- A row of names: its methods Less and Swap. Conditions: each name has twenty bytes.
   Rising rows of names: there is one for each set of names; equal neighbours left out of a sorted row; one name put in. No condition.
   sort.Sort of a row of names, out of pdqsort's contract. Conditions: fewer than 256 names, each of twenty bytes.
   slices.Compact of a row of names. Conditions: fewer than 256 names, each of twenty bytes.
   slices.Compact of a row of names: the walk. Conditions: fewer than 256 names, each of twenty bytes.
   slices.Clone of a row of names; oid.Sort. Conditions: fewer than 256 names, each of twenty bytes.
   oid.Sort, out of pdqsort's contract. Conditions: fewer than 256 names, each of twenty bytes.
   oid.Sort: the names in order, each once. Conditions: twenty bytes each, less than 256 names.
   The reference's Less of two names. Condition: twenty bytes each.
   The reference's Find in a row of names. Conditions: twenty bytes each, fewer than 256 names.
   Of: a row of names as the document's. Conditions: twenty bytes each, fewer than 256 names.
   Same: are two rows of names the same? Conditions: twenty bytes each, fewer than 256 names.
   An argument of the type of rows of names, as the row's frame hands it over. No condition. -/
import Derived.Test.YtcedfapcpmedfaaGreatDoorKc
import Derived.Deep.MidRow
import Derived.Test.YtcedfapcpmedfaaGreatDoorKa
import Derived.Sort.AssemblyPlain
import Derived.Test.YtcedfapcpmedfaaGreatDoorKd
import Derived.Deep.Slices
import Derived.OpenShut
namespace Go.Proofs.YtcedfapcpmedfaaGreatDoor
section
open Go.RowKit
open Go.Sort (swp)
set_option maxRecDepth 100000
set_option maxHeartbeats 4000000
set_option linter.unusedVariables false
/-- block g holds the names d, one behind the other, from its begin on -/
structure Ids (g : Nat) (W : World) (d : Array (List UInt8)) : Prop where
  at_ : ∀ i, i < d.size → W.rangeAt g (i * 20) (bvs d[i]!)
  free : W.there g 0 (d.size * 20)
  len : ∀ i, i < d.size → d[i]!.length = 20
  dom : g < W.heap.size
theorem cell_same {W W' : World} {g : Nat} (h : W'.heap[g]? = W.heap[g]?) (o : Nat) : W'.cell? ⟨g, o, none⟩ = W.cell? ⟨g, o, none⟩ := by simp only [World.cell?, h]
theorem frozen_same {W W' : World} {g : Nat} (h : W'.heap[g]? = W.heap[g]?) (o : Nat) : W'.frozen? ⟨g, o, none⟩ = W.frozen? ⟨g, o, none⟩ := by simp only [World.frozen?, h]
theorem Ids.keep {g : Nat} {W W' : World} {d : Array (List UInt8)} (h : Ids g W d) (e : W'.heap[g]? = W.heap[g]?) : Ids g W' d :=
  ⟨fun i hi j v hv => (cell_same e _).trans (h.at_ i hi j v hv), fun j hj => ⟨by rw [cell_same e]; exact (h.free j hj).1, by rw [frozen_same e]; exact (h.free j hj).2⟩, h.len, by
    have h1 := Array.getElem?_eq_getElem h.dom
    rw [← e] at h1
    exact (Array.getElem?_eq_some_iff.1 h1).1⟩
theorem range_sl {W : World} {g o : Nat} {cs : List Value} (h : W.rangeAt g o cs) : Sl W (some ⟨g, o, none⟩) cs := fun j v hv => ⟨_, rfl, by rw [add_plain]; exact h j v hv⟩
theorem Ids.load {g : Nat} {W : World} {d : Array (List UInt8)} (h : Ids g W d) (i : Nat) (hi : i < d.size) : (loadVar 27 ⟨g, i * 20, none⟩).run Tryz.prog W = .ok (idv d[i]!) W :=
  load_id _ (h.len i hi) _ _ (range_sl (h.at_ i hi))
theorem Ids.drew {g : Nat} {W : World} {d : Array (List UInt8)} (h : Ids g W d) : Ids g W.drew d := h.keep rfl
theorem Ids.thereAt {g : Nat} {W : World} {d : Array (List UInt8)} (h : Ids g W d) (i : Nat) (hi : i < d.size) : W.there g (i * 20) 20 := fun j hj => by
  have := h.free (i * 20 + j) (by omega)
  rwa [Nat.zero_add] at this
theorem swp_get (d : Array (List UInt8)) (i j k : Nat) (hi : i < d.size) (hj : j < d.size) (hk : k < d.size) : (swp d i j)[k]! = if k = j then d[i]! else if k = i then d[j]! else d[k]! := by
  unfold swp
  have hs : k < ((d.setIfInBounds i d[j]!).setIfInBounds j d[i]!).size := by simp; exact hk
  rw [getElem!_pos ((d.setIfInBounds i d[j]!).setIfInBounds j d[i]!) k hs, Array.getElem_setIfInBounds (by simpa using hk)]
  by_cases e : j = k
  · subst e; simp
  · rw [if_neg e, if_neg (Ne.symm e), Array.getElem_setIfInBounds hk]
    by_cases e2 : i = k
    · subst e2; simp
    · rw [if_neg e2, if_neg (Ne.symm e2), getElem!_pos d k hk]
theorem kp_setCells (g : Nat) : ∀ (vs : List Value) (o : Nat) (w : World), Kp (fun k => k = g) w (w.setCells g o vs)
  | [], o, w => Kp.refl _ _
  | v :: r, o, w => by
    rw [World.setCells]
    exact Kp.trans ((Kp.refl (fun k => k = g) w).setCell (p := ⟨g, o, none⟩) (.inl rfl) v) (kp_setCells g r (o + 1) _)
/-- a name goes to its place -/
theorem Ids.put {g : Nat} {W : World} {d : Array (List UInt8)} (h : Ids g W d) (i : Nat) (hi : i < d.size) (x : List UInt8) (hx : x.length = 20) : Ids g (W.setCells g (i * 20) (bvs x)) (d.setIfInBounds i x) where
  at_ := fun k hk => by
    have hk' : k < d.size := by simpa using hk
    have e : (d.setIfInBounds i x)[k]! = if k = i then x else d[k]! := by
      rw [getElem!_pos (d.setIfInBounds i x) k hk, Array.getElem_setIfInBounds hk']
      by_cases e : i = k
      · subst e; simp
      · rw [if_neg e, if_neg (Ne.symm e), getElem!_pos d k hk']
    rw [e]
    by_cases e : k = i
    · subst e
      rw [if_pos rfl]
      exact World.rangeAt_setCells_same _ _ _ _ (by rw [bvs_length, hx]; exact h.thereAt k hi)
    · rw [if_neg e]
      refine World.rangeAt_setCells_apart (h.at_ k hk') _ _ _ ?_
      rw [bvs_length, bvs_length, hx, h.len k hk']
      omega
  free := fun j hj => by
    have := h.free j (by simpa using hj)
    exact ⟨World.isSome_setCells _ _ _ _ _ this.1, by rw [World.frozen?_setCells]; exact this.2⟩
  len := fun k hk => by
    have hk' : k < d.size := by simpa using hk
    rw [getElem!_pos (d.setIfInBounds i x) k hk, Array.getElem_setIfInBounds hk']
    split
    · exact hx
    · have := h.len k hk'; rwa [getElem!_pos d k hk'] at this
  dom := Nat.lt_of_lt_of_le h.dom (kp_setCells g (bvs x) (i * 20) W).size
theorem Ids.get {g : Nat} {W : World} {d d' : Array (List UInt8)} (h : Ids g W d) (hs : d'.size = d.size) (he : ∀ k, k < d.size → d'[k]! = d[k]!) : Ids g W d' :=
  ⟨fun i hi => by rw [he i (by omega)]; exact h.at_ i (by omega), by rw [hs]; exact h.free, fun i hi => by rw [he i (by omega)]; exact h.len i (by omega), h.dom⟩
theorem Ids.swap {g : Nat} {W : World} {d : Array (List UInt8)} (h : Ids g W d) (i j : Nat) (hi : i < d.size) (hj : j < d.size) :
    Ids g ((W.setCells g (i * 20) (bvs d[j]!)).setCells g (j * 20) (bvs d[i]!)) (swp d i j) := by
  have h1 := h.put i hi d[j]! (h.len j hj)
  have h2 := h1.put j (by simpa using hj) d[i]! (h.len i hi)
  exact h2
theorem ids_less (g n cap : Nat) (hcap : n ≤ cap) (W : World) (d : Array (List UInt8)) (i j : Nat) (h : Ids g W d) (hd : d.size = n) (hi : i < n) (hj : j < n) (hn : n < 256) :
    Calls Tryz.prog 203 #[.slice (some ⟨g, 0, none⟩) n cap, .int .i64 (i : Int), .int .i64 (j : Int)] W fun e w' => e = .returned (.bool (decide (Lib.compareBytes d[i]! d[j]! < 0))) ∧ Below W.heap.size W w' := by
  have f0 : (loadVar 27 ⟨g, i * 20, none⟩).run Tryz.prog W.drew = .ok (idv d[i]!) W.drew := h.drew.load i (by omega)
  have f1 : (loadVar 27 ⟨g, j * 20, none⟩).run Tryz.prog W.drew = .ok (idv d[j]!) W.drew := h.drew.load j (by omega)
  have kl := less_any d[i]! d[j]! W.drew (h.len i (by omega)) (h.len j (by omega))
  have HD := Lib.hid hd
  clear h hd
  go_enter Tryz.func203, Tryz.ntmps203
  go_wp2
  go_still_tail 8, (by kernel_rfl)
  refine wpStill_load_agg rfl 27 (.tmp 9) rfl _ rfl _ f0 ?_
  repeat still_step
  refine wpStill_load_agg rfl 27 (.tmp 13) rfl _ rfl _ f1 ?_
  repeat still_step
  refine wpStill_nil ?_
  change wpList _ _ _ _ _ W.drew
  go_wp2_with (go_at_call 205; (with_reducible refine kl.mono ?_); rintro e w' ⟨rfl, hb⟩)
  go_ret
  exact ⟨rfl, (Below.refl _ _).drew.trans hb⟩
theorem step_if {c : Prop} [Decidable c] {A B : Prop} (hc : c) (h : A) : if c then A else B := by rw [if_pos hc]; exact h
theorem wp_loadV {P : Program} {op : Oper} {a : Act} {w : World} {K : Act → World → Prop} {Q : Exit → Act → World → Prop} (ty : TypeId) (x : Operand) (ho : op.op = .load ty x)
    (ad : Addr) (hx : a.eval x = .pointer (some ad)) (v : Value) (hl : (loadVar ty ad).run P w = .ok v w) (h : K (a.put op.dst v) w) : op.wp P a w K Q := by
  unfold Oper.wp execOp
  simp only [ho, hx, Instr.loadAt, Instr.sureAddr, Sem.run_bind, Sem.run_pure, Result.andThen_ok, hl]
  exact h
theorem wp_storeV {P : Program} {op : Oper} {a : Act} {w w' : World} {K : Act → World → Prop} {Q : Exit → Act → World → Prop} (ty : TypeId) (x y : Operand) (ho : op.op = .store ty x y)
    (ad : Addr) (v : Value) (hx : a.eval x = .pointer (some ad)) (hy : a.eval y = v) (hl : (storeVar ty ad v).run P w = .ok () w') (h : K (a.put op.dst undef) w') : op.wp P a w K Q := by
  unfold Oper.wp execOp
  simp only [ho, hx, hy, Instr.storeAt, Instr.sureAddr, Sem.run_bind, Sem.run_pure, Result.andThen_ok, hl]
  exact h
theorem ready_load {P : Program} {md : Region.Mode} {ops : Array Oper} {Q : Exit → Act → World → Prop} {fuel : Nat} {listed : Array Bool} {a : Act} {w : World} {i : Nat} {o : Oper} {rs : List Nat} (ho : ops[i]? = some o) (hgd : o.guard = none)
    (ty : TypeId) (x : Operand) (hop : o.op = .load ty x) (ad : Addr) (hx : a.eval x = .pointer (some ad)) (v : Value) (hl : (loadVar ty ad).run P w = .ok v w) (hs : AllReady P md ops Q fuel listed a w rs)
    (h : wpAny P md ops Q fuel (listed.setIfInBounds i true) (a.put o.dst v) w) : AllReady P md ops Q fuel listed a w (i :: rs) :=
  AllReady.cons ho (fun K hK => step_if (by simp [Region.wanted, hgd]) (wp_loadV ty x hop ad hx v hl (hK _ _ h))) hs
theorem ready_store {P : Program} {md : Region.Mode} {ops : Array Oper} {Q : Exit → Act → World → Prop} {fuel : Nat} {listed : Array Bool} {a : Act} {w w' : World} {i : Nat} {o : Oper} {rs : List Nat} (ho : ops[i]? = some o) (hgd : o.guard = none)
    (ty : TypeId) (x y : Operand) (hop : o.op = .store ty x y) (ad : Addr) (v : Value) (hx : a.eval x = .pointer (some ad)) (hy : a.eval y = v) (hl : (storeVar ty ad v).run P w = .ok () w') (hs : AllReady P md ops Q fuel listed a w rs)
    (h : wpAny P md ops Q fuel (listed.setIfInBounds i true) (a.put o.dst undef) w') : AllReady P md ops Q fuel listed a w (i :: rs) :=
  AllReady.cons ho (fun K hK => step_if (by simp [Region.wanted, hgd]) (wp_storeV ty x y hop ad v hx hy hl (hK _ _ h))) hs
theorem ids_swap (g n cap : Nat) (hcap : n ≤ cap) (W : World) (d : Array (List UInt8)) (i j : Nat) (h : Ids g W d) (hd : d.size = n) (hi : i < n) (hj : j < n) (hn : n < 256) :
    Calls Tryz.prog 204 #[.slice (some ⟨g, 0, none⟩) n cap, .int .i64 (i : Int), .int .i64 (j : Int)] W fun e w' => e = .returned (.tuple #[]) ∧ Ids g w' (swp d i j) ∧ Kp (fun k => k = g) W w' := by
  have f0 : (loadVar 27 ⟨g, i * 20, none⟩).run Tryz.prog W.drew = .ok (idv d[i]!) W.drew := h.drew.load i (by omega)
  have f1 : (loadVar 27 ⟨g, j * 20, none⟩).run Tryz.prog W.drew = .ok (idv d[j]!) W.drew := h.drew.load j (by omega)
  have hsw := h.drew.swap i j (by omega) (by omega)
  have t0 : W.drew.there g (i * 20) (bvs d[j]!).toArray.size := by
    have := h.drew.thereAt i (by omega)
    simpa [h.len j (by omega)] using this
  have t1 : (W.drew.setCells g (i * 20) (bvs d[j]!)).there g (j * 20) (bvs d[i]!).toArray.size := by
    have h1 := (h.drew.put i (by omega) d[j]! (h.len j (by omega))).thereAt j (by simp; omega)
    simpa [h.len i (by omega)] using h1
  have zi := info23 d[i]! (h.len i (by omega))
  have zj := info23 d[j]! (h.len j (by omega))
  have kk := Kp.trans (Kp.trans (Kp.refl (fun k => k = g) W).drew (kp_setCells g (bvs d[j]!) (i * 20) W.drew)) (kp_setCells g (bvs d[i]!) (j * 20) _)
  have s0 := run_storeVar_mid (P := Tryz.prog) W.drew g (i * 20) 27 (bvs d[j]!).toArray t0 zj (one_bvs _)
  have s1 := run_storeVar_mid (P := Tryz.prog) (W.drew.setCells g (i * 20) (bvs d[j]!)) g (j * 20) 27 (bvs d[i]!).toArray t1 zi (one_bvs _)
  rw [List.toList_toArray] at s0 s1
  have SW := Lib.hid hsw
  have KK := Lib.hid kk
  have HD := Lib.hid hd
  clear h hd t0 t1 zi zj hsw kk
  have F0 := Lib.hid f0; have F1 := Lib.hid f1; have S0 := Lib.hid s0; have S1 := Lib.hid s1
  clear f0 f1 s0 s1
  go_enter Tryz.func204, Tryz.ntmps204
  go_wp2
  refine wp_region_any (by kernel_rfl) ?_
  change wpAny _ _ _ _ _ _ _ (World.drew _)
  apply wpAny_take (i := 0)
  case hi => (simp only [List.getElem?_toArray, List.getElem?_cons_zero]; rfl)
  case hs => decide +kernel
  case hf => decide +kernel
  case hr => decide +kernel
  case hQ => exact fun _ _ _ h => h
  case hy => exact Or.inl ⟨by rfl, by intro w; go_simp; (try with_reducible rfl)⟩
  (try simp only [Act.put, List.setIfInBounds_toArray, List.set_cons_succ, List.set_cons_zero])
  apply wpAny_take (i := 1)
  case hi => (simp only [List.getElem?_toArray, List.getElem?_cons_succ, List.getElem?_cons_zero]; rfl)
  case hs => decide +kernel
  case hf => decide +kernel
  case hr => decide +kernel
  case hQ => exact fun _ _ _ h => h
  case hy => exact Or.inl ⟨by rfl, by intro w; go_simp; (try with_reducible rfl)⟩
  (try simp only [Act.put, List.setIfInBounds_toArray, List.set_cons_succ, List.set_cons_zero])
  apply wpAny_take (i := 2)
  case hi => (simp only [List.getElem?_toArray, List.getElem?_cons_succ, List.getElem?_cons_zero]; rfl)
  case hs => decide +kernel
  case hf => decide +kernel
  case hr => decide +kernel
  case hQ => exact fun _ _ _ h => h
  case hy => exact Or.inl ⟨by rfl, by intro w; go_simp; (try with_reducible rfl)⟩
  (try simp only [Act.put, List.setIfInBounds_toArray, List.set_cons_succ, List.set_cons_zero])
  apply wpAny_take (i := 3)
  case hi => (simp only [List.getElem?_toArray, List.getElem?_cons_succ, List.getElem?_cons_zero]; rfl)
  case hs => decide +kernel
  case hf => decide +kernel
  case hr => decide +kernel
  case hQ => exact fun _ _ _ h => h
  case hy => exact Or.inl ⟨by rfl, by intro w; go_simp; (try with_reducible rfl)⟩
  (try simp only [Act.put, List.setIfInBounds_toArray, List.set_cons_succ, List.set_cons_zero])
  apply wpAny_take (i := 4)
  case hi => (simp only [List.getElem?_toArray, List.getElem?_cons_succ, List.getElem?_cons_zero]; rfl)
  case hs => decide +kernel
  case hf => decide +kernel
  case hr => decide +kernel
  case hQ => exact fun _ _ _ h => h
  case hy => exact Or.inl ⟨by rfl, by intro w; go_simp; (try with_reducible rfl)⟩
  (try simp only [Act.put, List.setIfInBounds_toArray, List.set_cons_succ, List.set_cons_zero])
  apply wpAny_take (i := 5)
  case hi => (simp only [List.getElem?_toArray, List.getElem?_cons_succ, List.getElem?_cons_zero]; rfl)
  case hs => decide +kernel
  case hf => decide +kernel
  case hr => decide +kernel
  case hQ => exact fun _ _ _ h => h
  case hy => exact Or.inl ⟨by rfl, by intro w; go_simp; (try with_reducible rfl)⟩
  (try simp only [Act.put, List.setIfInBounds_toArray, List.set_cons_succ, List.set_cons_zero])
  apply wpAny_take (i := 6)
  case hi => (simp only [List.getElem?_toArray, List.getElem?_cons_succ, List.getElem?_cons_zero]; rfl)
  case hs => decide +kernel
  case hf => decide +kernel
  case hr => decide +kernel
  case hQ => exact fun _ _ _ h => h
  case hy => exact Or.inl ⟨by rfl, by intro w; go_simp; (try with_reducible rfl)⟩
  (try simp only [Act.put, List.setIfInBounds_toArray, List.set_cons_succ, List.set_cons_zero])
  apply wpAny_take (i := 8)
  case hi => (simp only [List.getElem?_toArray, List.getElem?_cons_succ, List.getElem?_cons_zero]; rfl)
  case hs => decide +kernel
  case hf => decide +kernel
  case hr => decide +kernel
  case hQ => exact fun _ _ _ h => h
  case hy => exact Or.inl ⟨by rfl, by intro w; go_simp; (try with_reducible rfl)⟩
  (try simp only [Act.put, List.setIfInBounds_toArray, List.set_cons_succ, List.set_cons_zero])
  apply wpAny_take (i := 9)
  case hi => (simp only [List.getElem?_toArray, List.getElem?_cons_succ, List.getElem?_cons_zero]; rfl)
  case hs => decide +kernel
  case hf => decide +kernel
  case hr => decide +kernel
  case hQ => exact fun _ _ _ h => h
  case hy => exact Or.inl ⟨by rfl, by intro w; go_simp; (try with_reducible rfl)⟩
  (try simp only [Act.put, List.setIfInBounds_toArray, List.set_cons_succ, List.set_cons_zero])
  apply wpAny_take (i := 10)
  case hi => (simp only [List.getElem?_toArray, List.getElem?_cons_succ, List.getElem?_cons_zero]; rfl)
  case hs => decide +kernel
  case hf => decide +kernel
  case hr => decide +kernel
  case hQ => exact fun _ _ _ h => h
  case hy => exact Or.inl ⟨by rfl, by intro w; go_simp; (try with_reducible rfl)⟩
  (try simp only [Act.put, List.setIfInBounds_toArray, List.set_cons_succ, List.set_cons_zero])
  refine wpAny_ready (rs := [7, 11]) (by kernel_rfl) (by simp) ?_
  apply ready_load (ty := 27) (x := .tmp 12) (ad := ⟨g, j * 20, none⟩) (v := idv d[j]!) (hl := F1.out)
  case ho => (simp only [List.getElem?_toArray, List.getElem?_cons_succ, List.getElem?_cons_zero]; rfl)
  case hgd => rfl
  case hop => rfl
  case hx => rfl
  case h =>
    refine wpAny_ready (rs := [11]) (by kernel_rfl) (by simp) ?_
    apply ready_load (ty := 27) (x := .tmp 16) (ad := ⟨g, i * 20, none⟩) (v := idv d[i]!) (hl := F0.out)
    case ho => (simp only [List.getElem?_toArray, List.getElem?_cons_succ, List.getElem?_cons_zero]; rfl)
    case hgd => rfl
    case hop => rfl
    case hx => rfl
    case hs => exact AllReady.nil
    apply wpAny_take (i := 12)
    case hi => (simp only [List.getElem?_toArray, List.getElem?_cons_succ, List.getElem?_cons_zero]; rfl)
    case hs => decide +kernel
    case hf => decide +kernel
    case hr => decide +kernel
    case hQ => exact fun _ _ _ h => h
    case hy => exact Or.inl ⟨by rfl, by intro w; go_simp; (try with_reducible rfl)⟩
    (try simp only [Act.put, List.setIfInBounds_toArray, List.set_cons_succ, List.set_cons_zero])
    refine wpAny_ready (rs := [13]) (by kernel_rfl) (by simp) ?_
    apply ready_store (ty := 27) (x := .tmp 18) (y := .tmp 13) (ad := ⟨g, i * 20, none⟩) (v := idv d[j]!) (hl := S0.out)
    case ho => (simp only [List.getElem?_toArray, List.getElem?_cons_succ, List.getElem?_cons_zero]; rfl)
    case hgd => rfl
    case hop => rfl
    case hx => rfl
    case hy => rfl
    case hs => exact AllReady.nil
    apply wpAny_take (i := 14)
    case hi => (simp only [List.getElem?_toArray, List.getElem?_cons_succ, List.getElem?_cons_zero]; rfl)
    case hs => decide +kernel
    case hf => decide +kernel
    case hr => decide +kernel
    case hQ => exact fun _ _ _ h => h
    case hy => exact Or.inl ⟨by rfl, by intro w; go_simp; (try with_reducible rfl)⟩
    (try simp only [Act.put, List.setIfInBounds_toArray, List.set_cons_succ, List.set_cons_zero])
    refine wpAny_ready (rs := [15]) (by kernel_rfl) (by simp) ?_
    apply ready_store (ty := 27) (x := .tmp 19) (y := .tmp 17) (ad := ⟨g, j * 20, none⟩) (v := idv d[i]!) (hl := S1.out)
    case ho => (simp only [List.getElem?_toArray, List.getElem?_cons_succ, List.getElem?_cons_zero]; rfl)
    case hgd => rfl
    case hop => rfl
    case hx => rfl
    case hy => rfl
    case hs => exact AllReady.nil
    refine wpAny_done (by kernel_rfl) ?_ _
    go_end0
    exact ⟨rfl, SW.out, KK.out⟩
  apply ready_load (ty := 27) (x := .tmp 16) (ad := ⟨g, i * 20, none⟩) (v := idv d[i]!) (hl := F0.out)
  case ho => (simp only [List.getElem?_toArray, List.getElem?_cons_succ, List.getElem?_cons_zero]; rfl)
  case hgd => rfl
  case hop => rfl
  case hx => rfl
  case hs => exact AllReady.nil
  refine wpAny_ready (rs := [7]) (by kernel_rfl) (by simp) ?_
  apply ready_load (ty := 27) (x := .tmp 12) (ad := ⟨g, j * 20, none⟩) (v := idv d[j]!) (hl := F1.out)
  case ho => (simp only [List.getElem?_toArray, List.getElem?_cons_succ, List.getElem?_cons_zero]; rfl)
  case hgd => rfl
  case hop => rfl
  case hx => rfl
  case hs => exact AllReady.nil
  apply wpAny_take (i := 12)
  case hi => (simp only [List.getElem?_toArray, List.getElem?_cons_succ, List.getElem?_cons_zero]; rfl)
  case hs => decide +kernel
  case hf => decide +kernel
  case hr => decide +kernel
  case hQ => exact fun _ _ _ h => h
  case hy => exact Or.inl ⟨by rfl, by intro w; go_simp; (try with_reducible rfl)⟩
  (try simp only [Act.put, List.setIfInBounds_toArray, List.set_cons_succ, List.set_cons_zero])
  refine wpAny_ready (rs := [13]) (by kernel_rfl) (by simp) ?_
  apply ready_store (ty := 27) (x := .tmp 18) (y := .tmp 13) (ad := ⟨g, i * 20, none⟩) (v := idv d[j]!) (hl := S0.out)
  case ho => (simp only [List.getElem?_toArray, List.getElem?_cons_succ, List.getElem?_cons_zero]; rfl)
  case hgd => rfl
  case hop => rfl
  case hx => rfl
  case hy => rfl
  case hs => exact AllReady.nil
  apply wpAny_take (i := 14)
  case hi => (simp only [List.getElem?_toArray, List.getElem?_cons_succ, List.getElem?_cons_zero]; rfl)
  case hs => decide +kernel
  case hf => decide +kernel
  case hr => decide +kernel
  case hQ => exact fun _ _ _ h => h
  case hy => exact Or.inl ⟨by rfl, by intro w; go_simp; (try with_reducible rfl)⟩
  (try simp only [Act.put, List.setIfInBounds_toArray, List.set_cons_succ, List.set_cons_zero])
  refine wpAny_ready (rs := [15]) (by kernel_rfl) (by simp) ?_
  apply ready_store (ty := 27) (x := .tmp 19) (y := .tmp 17) (ad := ⟨g, j * 20, none⟩) (v := idv d[i]!) (hl := S1.out)
  case ho => (simp only [List.getElem?_toArray, List.getElem?_cons_succ, List.getElem?_cons_zero]; rfl)
  case hgd => rfl
  case hop => rfl
  case hx => rfl
  case hy => rfl
  case hs => exact AllReady.nil
  refine wpAny_done (by kernel_rfl) ?_ _
  go_end0
  exact ⟨rfl, SW.out, KK.out⟩
end
section
open Go.Sort (SWO PermIn SortedIn ltStr swo_ltStr)
set_option linter.unusedVariables false
theorem cmp_lt : ∀ a b : List UInt8, Lib.compareBytes a b < 0 ↔ a < b
  | [], [] => by simp [Lib.compareBytes]
  | [], y :: b => by simp [Lib.compareBytes]
  | x :: a, [] => by simp [Lib.compareBytes]
  | x :: a, y :: b => by
    have ih := cmp_lt a b
    rw [List.cons_lt_cons_iff]
    have l1 : x < y ↔ x.toNat < y.toNat := Iff.rfl
    have l2 : y < x ↔ y.toNat < x.toNat := Iff.rfl
    rcases Nat.lt_trichotomy x.toNat y.toNat with h | h | h
    · have n2 : ¬ y < x := fun e => by have := l2.1 e; omega
      simp [Lib.compareBytes, l1.2 h]
    · have e : x = y := UInt8.toNat_inj.1 h
      subst e
      have n1 : ¬ x < x := fun e => by have := l1.1 e; omega
      simp [Lib.compareBytes, n1, ih]
    · have n1 : ¬ x < y := fun e => by have := l1.1 e; omega
      have n2 : ¬ x = y := fun e => by subst e; omega
      simp [Lib.compareBytes, n1, n2, l2.2 h]
theorem cmp_str (a b : List UInt8) : decide (Lib.compareBytes a b < 0) = ltStr a b := by
  unfold ltStr
  exact decide_eq_decide.2 (cmp_lt a b)
/-- rising -/
abbrev Ris (l : List (List UInt8)) : Prop := l.Pairwise (· < ·)
theorem ris_unique : ∀ (a b : List (List UInt8)), Ris a → Ris b → (∀ x, x ∈ a ↔ x ∈ b) → a = b
  | [], [], _, _, _ => rfl
  | [], y :: b, _, _, h => absurd ((h y).2 (by simp)) (by simp)
  | x :: a, [], _, _, h => absurd ((h x).1 (by simp)) (by simp)
  | x :: a, y :: b, ha, hb, h => by
    obtain ⟨a1, a2⟩ := List.pairwise_cons.1 ha
    obtain ⟨b1, b2⟩ := List.pairwise_cons.1 hb
    have hxy : x = y := by
      have hx : x ∈ y :: b := (h x).1 (by simp)
      have hy : y ∈ x :: a := (h y).2 (by simp)
      rcases List.mem_cons.1 hx with e | e
      · exact e
      · rcases List.mem_cons.1 hy with e' | e'
        · exact e'.symm
        · exact absurd (List.lt_trans (a1 y e') (b1 x e)) (List.lt_irrefl x)
    subst hxy
    rw [ris_unique a b a2 b2 fun z => ⟨fun hz => ?_, fun hz => ?_⟩]
    · have := (h z).1 (by simp [hz])
      rcases List.mem_cons.1 this with e | e
      · exact absurd (e ▸ a1 z hz) (List.lt_irrefl _)
      · exact e
    · have := (h z).2 (by simp [hz])
      rcases List.mem_cons.1 this with e | e
      · exact absurd (e ▸ b1 z hz) (List.lt_irrefl _)
      · exact e
/-- equal neighbours left out, from the front -/
def cmpt (d : List (List UInt8)) : Nat → List (List UInt8)
  | 0 => []
  | 1 => d.take 1
  | m + 2 => if d.getD (m + 1) [] = d.getD m [] then cmpt d (m + 1) else cmpt d (m + 1) ++ [d.getD (m + 1) []]
theorem cmpt_len (d : List (List UInt8)) : ∀ m, (cmpt d m).length ≤ m
  | 0 => by simp [cmpt]
  | 1 => by simp [cmpt]; omega
  | m + 2 => by
    have := cmpt_len d (m + 1)
    rw [cmpt]
    split
    · omega
    · simp; omega
theorem cmpt_last (d : List (List UInt8)) : ∀ m, m < d.length → (cmpt d (m + 1)).getLast? = some (d.getD m [])
  | 0, h => by
    cases d with
    | nil => simp at h
    | cons x d => simp [cmpt]
  | m + 1, h => by
    rw [cmpt]
    split
    next e => rw [cmpt_last d m (by omega), e]
    next e => simp
theorem cmpt_mem (d : List (List UInt8)) : ∀ m, m ≤ d.length → ∀ x, x ∈ cmpt d m ↔ x ∈ d.take m
  | 0, _, x => by simp [cmpt]
  | 1, _, x => by simp [cmpt]
  | m + 2, h, x => by
    have ih := cmpt_mem d (m + 1) (by omega) x
    have hg : d.getD (m + 1) [] = d[m + 1]'(by omega) := by rw [List.getD_eq_getElem?_getD, List.getElem?_eq_getElem (by omega)]; rfl
    rw [cmpt, List.take_succ_eq_append_getElem (by omega : m + 1 < d.length)]
    split
    next e =>
      rw [ih, List.mem_append, List.mem_singleton, ← hg, e]
      refine ⟨.inl, fun hh => ?_⟩
      rcases hh with hh | hh
      · exact hh
      · rw [hh]
        have hm : d.getD m [] = d[m]'(by omega) := by rw [List.getD_eq_getElem?_getD, List.getElem?_eq_getElem (by omega)]; rfl
        rw [hm, List.mem_take_iff_getElem]
        exact ⟨m, by omega, rfl⟩
    next e => rw [List.mem_append, List.mem_append, List.mem_singleton, List.mem_singleton, ih, hg]
theorem cmpt_ris (d : List (List UInt8)) (hd : ∀ i j, i < j → j < d.length → ¬ d.getD j [] < d.getD i []) : ∀ m, m ≤ d.length → Ris (cmpt d m) ∧ ∀ x ∈ cmpt d m, m ≠ 0 → x ≤ d.getD (m - 1) []
  | 0, _ => by simp [cmpt, Ris]
  | 1, h => by
    cases d with
    | nil => simp at h
    | cons x d => simp [cmpt, Ris]
  | m + 2, h => by
    obtain ⟨i1, i2⟩ := cmpt_ris d hd (m + 1) (by omega)
    have hle : d.getD m [] ≤ d.getD (m + 1) [] := List.not_lt.1 (hd m (m + 1) (by omega) (by omega))
    rw [cmpt]
    split
    next e =>
      refine ⟨i1, fun x hx _ => ?_⟩
      have := i2 x hx (by omega)
      rw [show m + 2 - 1 = m + 1 by omega, e]
      exact this
    next e =>
      refine ⟨List.pairwise_append.2 ⟨i1, by simp, fun x hx y hy => ?_⟩, fun x hx _ => ?_⟩
      · rw [List.mem_singleton] at hy
        subst hy
        have h1 := i2 x hx (by omega)
        have h2 : d.getD m [] < d.getD (m + 1) [] := by
          by_cases g : d.getD m [] < d.getD (m + 1) []
          · exact g
          · exact absurd (List.le_antisymm (List.not_lt.1 g) hle) e
        exact List.lt_of_le_of_lt h1 h2
      · rcases List.mem_append.1 hx with hx | hx
        · exact List.le_trans (i2 x hx (by omega)) (by simpa using hle)
        · rw [List.mem_singleton] at hx
          subst hx
          exact List.le_refl _
end
section
open Go.RowKit
open Go.Sort (swp ltStr SWO PermIn SortedIn bitsLen)
set_option maxRecDepth 100000
set_option maxHeartbeats 4000000
set_option linter.unusedVariables false
theorem ids_srt (g n cap : Nat) (hcap : n ≤ cap) (hn : n < 256) : Srt (.slice (some ⟨g, 0, none⟩) n cap) ltStr n g (Ids g) where
  keep := fun h e => h.keep e
  dom := fun h => h.dom
  less := fun W d i j h hd hi hj => by
    have := ids_less g n cap hcap W d i j h hd hi hj hn
    rwa [cmp_str] at this
  swap := fun W d i j h hd hi hj => ids_swap g n cap hcap W d i j h hd hi hj hn
/-- pdqsort's contract, as it is proved elsewhere -/
def PdqOK (S : Value) (n g : Nat) : Prop := ∀ (a b lim : Nat) (d : Array (List UInt8)) (w : World), a ≤ b → b ≤ n → lim ≤ 1000 → Ids g w d → d.size = n → Go.Sort.Below ltStr a b d →
    Calls Tryz.prog 141 #[.iface 171 S, .int .i64 (a : Int), .int .i64 (b : Int), .int .i64 (lim : Int)] w fun e w' => e = .returned (.tuple #[]) ∧ ∃ d', St (Ids g) g n w w' d' ∧ PermIn a b d d' ∧ SortedIn ltStr a b d'
theorem sort_ids (g n cap : Nat) (hcap : n ≤ cap) (hn : n < 256) (hP : PdqOK (.slice (some ⟨g, 0, none⟩) n cap) n g) (d : Array (List UInt8)) (w : World) (h : Ids g w d) (hd : d.size = n) :
    Calls Tryz.prog 114 #[.iface 171 (.slice (some ⟨g, 0, none⟩) n cap)] w fun e w' => e = .returned (.tuple #[]) ∧ ∃ d', St (Ids g) g n w w' d' ∧ PermIn 0 n d d' ∧ SortedIn ltStr 0 n d' := by
  have kl := len80 (some ⟨g, 0, none⟩) n cap w
  have kb := len_any n hn w
  have hb := bitsLen_256 n hn
  obtain ⟨v, hv⟩ : ∃ v, v = bitsLen n := ⟨_, rfl⟩
  rw [← hv] at kb hb
  have kp := hP 0 n v d w (Nat.zero_le _) (Nat.le_refl _) (by omega) h hd (.inl rfl)
  rw [show ((0 : Nat) : Int) = 0 from rfl] at kp
  have mS : ∀ (w : World), (method 350 171 (.slice (some ⟨g, 0, none⟩) n cap) "Len").run Tryz.prog w = .ok (202, .slice (some ⟨g, 0, none⟩) n cap) w := fun w => by kernel_rfl
  have cS : ∀ (w : World), (callFunc 202 #[.slice (some ⟨g, 0, none⟩) n cap]).run Tryz.prog w = .ok (.enter 202 #[.slice (some ⟨g, 0, none⟩) n cap]) w := fun w => by kernel_rfl
  have wr : IntKind.u64.wrap (n : Int) = n := by rw [IntKind.wrap_u64]; omega
  have st0 := St.start (g := g) (n := n) w d h hd
  have HD := Lib.hid hd
  clear hP h hd hv
  by_cases h1 : n ≤ 1
  · have z1 : (n : Int) ≤ 1 := by omega
    go_enter Tryz.func114, Tryz.ntmps114
    go_wp2_with (go_at_call 202; (with_reducible refine kl.mono ?_); rintro e w1 ⟨rfl, rfl⟩)
    (try simp only [Exit.inBlock, Exit.then])
    refine bodyPost_ret (results_none rfl _ _ _) rfl ?_
    refine ⟨rfl, d, st0, Go.Sort.permIn_refl _ _ _, fun i j _ h1 h2 => by omega⟩
  · have z1 : ¬ (n : Int) ≤ 1 := by omega
    go_enter Tryz.func114, Tryz.ntmps114
    go_wp2_with (first
      | (go_at_call 202; (with_reducible refine kl.mono ?_); rintro e w1 ⟨rfl, rfl⟩)
      | (go_at_call 140; (with_reducible refine kb.mono ?_); rintro e w1 ⟨rfl, rfl⟩)
      | (go_at_call 141; (with_reducible refine kp.mono ?_); rintro e w1 ⟨rfl, d', hs, hp, hso⟩))
    go_end0
    exact ⟨rfl, d', hs, hp, hso⟩
end
section
open Go.RowKit
set_option maxRecDepth 100000
set_option maxHeartbeats 4000000
set_option linter.unusedVariables false
theorem td (d : Array (List UInt8)) (p : Nat) : d.toList.getD p [] = d[p]! := by
  rw [List.getD_eq_getElem?_getD]
  by_cases h : p < d.size
  · rw [getElem!_pos d p h]; simp [h]
  · rw [getElem!_neg d p h]; simp [h]; rfl
theorem zero_one : ∀ k < 20, ((idv zs20).cells[k]!).oneCell' = true := by decide +kernel
theorem run_clear (g o c m : Nat) (w : World) (ht : w.there g o (m * 20)) :
    ∃ w' vs, (Builtin.clear_ #[43] 0 #[.slice (some ⟨g, o, none⟩) m c]).run Tryz.prog w = .ok (.tuple #[]) w' ∧ w' = w.setCells g o vs := by
  have hv : ∀ w : World, (zeroValue 27).run Tryz.prog w = .ok (idv zs20) w := fun w => by kernel_rfl
  cases m with
  | zero => exact ⟨w, [], by simp [Builtin.clear_, run_underlying Tryz.underlying43], rfl⟩
  | succ m =>
    have hsz : (idv zs20).cells.size = 20 := by kernel_rfl
    have hl : (Builtin.zeroCells (idv zs20).cells (m + 1)).toList.length = (m + 1) * 20 := by simp [Builtin.zeroCells, hsz]
    have hst := run_storeCells_cells (P := Tryz.prog) g o (Builtin.zeroCells (idv zs20).cells (m + 1)).toList 0 w (fun j hj => by simpa using (ht j (by omega)).1) (fun j hj => by simpa using (ht j (by omega)).2)
      (fun v hv => by
        simp only [Builtin.zeroCells, Array.toList_map, List.mem_map] at hv
        obtain ⟨i, _, rfl⟩ := hv
        rw [hsz]
        exact zero_one _ (Nat.mod_lt _ (by omega)))
    refine ⟨_, (Builtin.zeroCells (idv zs20).cells (m + 1)).toList, ?_, rfl⟩
    simp [Builtin.clear_, run_underlying Tryz.underlying43, hv, hst]
theorem Ids.front {g : Nat} {W : World} {d d' : Array (List UInt8)} (h : Ids g W d) (hs : d'.size ≤ d.size) (he : ∀ k, k < d'.size → d'[k]! = d[k]!) : Ids g W d' :=
  ⟨fun i hi => by rw [he i hi]; exact h.at_ i (by omega), fun j hj => h.free j (by omega), fun i hi => by rw [he i hi]; exact h.len i (by omega), h.dom⟩
theorem Ids.tail {g : Nat} {W : World} {d : Array (List UInt8)} (h : Ids g W d) (o : Nat) (ho : d.size * 20 ≤ o) (vs : List Value) : Ids g (W.setCells g o vs) d :=
  ⟨fun i hi => World.rangeAt_setCells_apart (h.at_ i hi) _ _ _ (.inr (.inl (by rw [bvs_length, h.len i hi]; omega))),
   fun j hj => ⟨World.isSome_setCells _ _ _ _ _ (h.free j hj).1, by rw [World.frozen?_setCells]; exact (h.free j hj).2⟩, h.len, Nat.lt_of_lt_of_le h.dom (kp_setCells g vs o W).size⟩
theorem Ids.thereFrom {g : Nat} {W : World} {d : Array (List UInt8)} (h : Ids g W d) (k m : Nat) (hm : k + m ≤ d.size) : W.there g (k * 20) (m * 20) := fun j hj => by
  have := h.free (k * 20 + j) (by omega)
  rwa [Nat.zero_add] at this
theorem St.drew {g n : Nat} {w W : World} {d : Array (List UInt8)} (h : St (Ids g) g n w W d) : St (Ids g) g n w W.drew d := ⟨h.holds.drew, h.size, h.kp.drew⟩
theorem St.load {g n : Nat} {w W : World} {d : Array (List UInt8)} (h : St (Ids g) g n w W d) (i : Nat) (hi : i < n) (o : Nat) (ho : o = i * 20) : (loadVar 27 ⟨g, o, none⟩).run Tryz.prog W = .ok (idv d[i]!) W := by
  subst ho; exact h.holds.load i (by rw [h.size]; exact hi)
theorem cmpt_step (l : List (List UInt8)) (m : Nat) (h : 1 ≤ m) : cmpt l (m + 1) = if l.getD m [] = l.getD (m - 1) [] then cmpt l m else cmpt l m ++ [l.getD m []] := by
  obtain ⟨k, rfl⟩ : ∃ k, m = k + 1 := ⟨m - 1, by omega⟩
  rw [cmpt, Nat.add_sub_cancel]
theorem cmpt_all (l : List (List UInt8)) : ∀ k, 1 ≤ k → k ≤ l.length → (∀ j, 1 ≤ j → j < k → l.getD j [] ≠ l.getD (j - 1) []) → cmpt l k = l.take k
  | 0, h, _, _ => absurd h (by omega)
  | 1, _, _, _ => rfl
  | k + 2, _, hl, hne => by
    rw [cmpt_step l (k + 1) (by omega), if_neg (hne (k + 1) (by omega) (by omega)), cmpt_all l (k + 1) (by omega) (by omega) (fun j h1 h2 => hne j h1 (by omega)), List.take_succ_eq_append_getElem (by omega : k + 1 < l.length)]
    congr 2
    rw [List.getD_eq_getElem?_getD, List.getElem?_eq_getElem (by omega)]; rfl
/-- what the second loop keeps -/
structure Cmp (d : Array (List UInt8)) (k0 m k : Nat) (D : Array (List UInt8)) : Prop where
  len : k = (cmpt d.toList (k0 + m)).length
  le : k ≤ k0 + m - 1
  front : ∀ p, p < k → D[p]! = (cmpt d.toList (k0 + m)).getD p []
  back : ∀ p, k0 + m - 1 ≤ p → p < d.size → D[p]! = d[p]!
theorem set_get (d : Array (List UInt8)) (i k : Nat) (x : List UInt8) (hk : k < d.size) : (d.setIfInBounds i x)[k]! = if k = i then x else d[k]! := by
  rw [getElem!_pos (d.setIfInBounds i x) k (by simpa using hk), Array.getElem_setIfInBounds hk]
  by_cases e : i = k
  · subst e; simp
  · rw [if_neg e, if_neg (Ne.symm e), getElem!_pos d k hk]
theorem Cmp.same {d D : Array (List UInt8)} {k0 m k : Nat} (h : Cmp d k0 m k D) (h0 : 1 ≤ k0) (h1 : k0 + m < d.size) (he : d[k0 + m]! = d[k0 + m - 1]!) (hm : 1 ≤ m) : Cmp d k0 (m + 1) k D := by
  have e : cmpt d.toList (k0 + (m + 1)) = cmpt d.toList (k0 + m) := by
    rw [show k0 + (m + 1) = k0 + m + 1 by omega, cmpt_step _ _ (by omega), td, td, if_pos he]
  exact ⟨by rw [e]; exact h.len, by have := h.le; omega, by rw [e]; exact h.front, fun p hp hp2 => h.back p (by omega) hp2⟩
theorem Cmp.put {d D : Array (List UInt8)} {k0 m k : Nat} (h : Cmp d k0 m k D) (hs : D.size = d.size) (h0 : 1 ≤ k0) (h1 : k0 + m < d.size) (he : ¬ d[k0 + m]! = d[k0 + m - 1]!) (hm : 1 ≤ m) : Cmp d k0 (m + 1) (k + 1) (D.setIfInBounds k d[k0 + m]!) := by
  have hle := h.le
  have e : cmpt d.toList (k0 + (m + 1)) = cmpt d.toList (k0 + m) ++ [d[k0 + m]!] := by
    rw [show k0 + (m + 1) = k0 + m + 1 by omega, cmpt_step _ _ (by omega), td, td, if_neg he]
  refine ⟨by rw [e, List.length_append, ← h.len]; rfl, by omega, fun p hp => ?_, fun p hp hp2 => ?_⟩
  · rw [set_get _ _ _ _ (by omega), e, List.getD_eq_getElem?_getD]
    by_cases hpk : p = k
    · subst hpk
      rw [if_pos rfl, List.getElem?_append_right (by rw [← h.len]; omega), ← h.len, Nat.sub_self]; rfl
    · rw [if_neg hpk, List.getElem?_append_left (by rw [← h.len]; omega), ← List.getD_eq_getElem?_getD]
      exact h.front p (by omega)
  · rw [set_get _ _ _ _ (by omega), if_neg (by omega)]
    exact h.back p (by omega) hp2
end
section
open Go.RowKit
set_option maxRecDepth 100000
set_option maxHeartbeats 8000000
set_option linter.unusedVariables false
theorem compact_small (A : Option Addr) (n cap : Nat) (hn : n < 2) (w : World) : Calls Tryz.prog 116 #[.slice A n cap] w fun e w' => e = .returned (.slice A n cap) ∧ w = w' := by
  have z : (n : Int) < 2 := by omega
  go_enter Tryz.func116, Tryz.ntmps116
  go_wp2
  go_ret
  exact ⟨rfl, rfl⟩
theorem compact_any (g n cap : Nat) (hcap : n ≤ cap) (hn : n < 256) (h2 : 2 ≤ n) (d : Array (List UInt8)) (w : World) (h : Ids g w d) (hd : d.size = n) :
    Calls Tryz.prog 116 #[.slice (some ⟨g, 0, none⟩) n cap] w fun e w' => e = .returned (.slice (some ⟨g, 0, none⟩) (cmpt d.toList n).length cap) ∧ Ids g w' (cmpt d.toList n).toArray ∧ Kp (fun k => k = g) w w' := by
  have st0 := St.start (g := g) (n := n) w d h hd
  have hw0 : IntKind.i64.wrap 0 = 0 := rfl
  have hlenl : d.toList.length = n := by simpa using hd
  have HD := Lib.hid hd
  have HL := Lib.hid hlenl
  have HX := Lib.hid h.len
  clear h hd hlenl
  go_enter Tryz.func116, Tryz.ntmps116
  go_wp2
  go_loopw [3] (fun t3 wr => ∃ k : Nat, t3 = .int .i64 (k : Int) ∧ 1 ≤ k ∧ k ≤ n ∧ Hid (∀ j, 1 ≤ j → j < k → d[j]! ≠ d[j - 1]!) ∧ St (Ids g) g n w wr d) (fun t3 _ => (n - intOf t3).toNat)
  case atStart => exact ⟨1, rfl, by omega, by omega, Lib.hid (fun j h1 h2 => by omega), st0⟩
  case round =>
    clear st0
    obtain ⟨k, rfl, hk1, hk2, hne, hst⟩ := hrel
    by_cases hkn : k < n
    · have f1 := hst.drew.load k hkn (k * 20) rfl
      obtain ⟨m, hm⟩ : ∃ m, k = m + 1 := ⟨k - 1, by omega⟩
      have hmn : m < n := by omega
      have f0 := hst.drew.load m hmn (m * 20) rfl
      have F0 := Lib.hid f0; have F1 := Lib.hid f1
      obtain ⟨q, hq⟩ : ∃ q, decide (d[k]! = d[m]!) = q := ⟨_, rfl⟩
      have heq := eqlIn_run 27 Tryz.underlying27 d[k]! d[m]! (HX.out k (by rw [HD.out]; exact hkn)) (HX.out m (by rw [HD.out]; exact hmn)) wr.drew
      rw [hq] at heq
      have HQ := Lib.hid hq
      have hwk : IntKind.i64.wrap ((k : Int) - 1) = (m : Int) := by rw [IntWalk.i64_in _ (by omega)]; omega
      have HM := Lib.hid hm
      clear hm
      clear f0 f1 hq
      cases q with
      | false =>
        go_wp2
        refine wp_region_still_tail 9 (by kernel_rfl) (by kernel_rfl) ?_
        simp only [List.take_succ_cons, List.take_zero, List.drop_succ_cons, List.drop_zero]
        repeat still_step
        refine wpStill_load_agg rfl 27 (.tmp 18) rfl _ rfl _ F1.out ?_
        repeat still_step
        refine wpStill_load_agg rfl 27 (.tmp 23) rfl _ rfl _ F0.out ?_
        repeat still_step
        refine wpStill_nil ?_
        change wpList _ _ _ _ _ wr.drew
        go_wp2
        go_roundw
        case rel => exact ⟨k + 1, by simp, by omega, by omega, Lib.hid (fun j h1 h2 => by
          by_cases e : j = k
          · subst e; rw [show j - 1 = m by have := HM.out; omega]; exact of_decide_eq_false HQ.out
          · exact hne.out j h1 (by omega)), hst.drew⟩
        case measure => simp only [intOf]; omega
      | true =>
        have hcut : cap ≠ k := by omega
        go_wp2
        refine wp_region_still_tail 9 (by kernel_rfl) (by kernel_rfl) ?_
        simp only [List.take_succ_cons, List.take_zero, List.drop_succ_cons, List.drop_zero]
        repeat still_step
        refine wpStill_load_agg rfl 27 (.tmp 18) rfl _ rfl _ F1.out ?_
        repeat still_step
        refine wpStill_load_agg rfl 27 (.tmp 23) rfl _ rfl _ F0.out ?_
        repeat still_step
        refine wpStill_nil ?_
        change wpList _ _ _ _ _ wr.drew
        have st1 := hst.drew
        have cm0 : Cmp d k 1 k d := by
          have e1 : cmpt d.toList k = d.toList.take k := cmpt_all d.toList k hk1 (by rw [HL.out]; omega) (fun j h1 h2 => by rw [td, td]; exact hne.out j h1 h2)
          have e : cmpt d.toList (k + 1) = d.toList.take k := by rw [cmpt_step _ _ hk1, td, td, if_pos (by rw [show k - 1 = m by have := HM.out; omega]; exact of_decide_eq_true HQ.out), e1]
          refine ⟨by rw [e, List.length_take, HL.out]; omega, by omega, fun p hp => ?_, fun _ _ _ => rfl⟩
          rw [e, ← td, List.getD_eq_getElem?_getD, List.getD_eq_getElem?_getD, List.getElem?_take_of_lt hp]
        have KW := Lib.hid st1.kp
        generalize wr.drew = ws at st1 heq KW ⊢
        have CM := Lib.hid cm0
        clear hst F0 F1 cm0 HQ hne
        go_upto_block 2 with (fail)
        clear heq
        obtain ⟨r, hr⟩ : ∃ r, n - k = r := ⟨_, rfl⟩
        obtain ⟨c2, hc2⟩ : ∃ c2, cap - k = c2 := ⟨_, rfl⟩
        have hrn : k + r = n := by omega
        have hrc : r ≤ c2 := by omega
        simp only [hr, hc2]
        clear hr hc2
        go_wp2_with fail
        go_loopw [3, 5] (fun t3 t5 wq => ∃ (j i : Nat) (D : Array (List UInt8)), t3 = .int .i64 (j : Int) ∧ t5 = .int .i64 (i : Int) ∧ 1 ≤ i ∧ i ≤ r ∧ Hid (Cmp d k i j D) ∧ St (Ids g) g n ws wq D) (fun _ t5 _ => (n - intOf t5).toNat)
        case atStart => exact ⟨k, 1, d, rfl, rfl, by omega, by omega, CM, St.start _ _ st1.holds st1.size⟩
        case round =>
          clear st1 CM
          obtain ⟨j, i, D, rfl, rfl, hi1, hi2, HC, hst⟩ := hrel
          have hjl := HC.out.le
          by_cases hir : i < r
          · obtain ⟨m2, hm2⟩ : ∃ m2, i = m2 + 1 := ⟨i - 1, by omega⟩
            have hm2r : m2 < r := by omega
            have hw2 : IntKind.i64.wrap ((i : Int) - 1) = (m2 : Int) := by rw [IntWalk.i64_in _ (by omega)]; omega
            have f1 := hst.drew.load (k + i) (by omega) (k * 20 + i * 20) (by omega)
            rw [HC.out.back (k + i) (by omega) (by rw [HD.out]; omega)] at f1
            have f0 := hst.drew.load (k + m2) (by omega) (k * 20 + m2 * 20) (by omega)
            rw [HC.out.back (k + m2) (by omega) (by rw [HD.out]; omega)] at f0
            have l1 : d[k + i]!.length = 20 := HX.out _ (by rw [HD.out]; omega)
            have l0 : d[k + m2]!.length = 20 := HX.out _ (by rw [HD.out]; omega)
            obtain ⟨q, hq⟩ : ∃ q, decide (d[k + i]! = d[k + m2]!) = q := ⟨_, rfl⟩
            have heq := eqlIn_run 27 Tryz.underlying27 d[k + i]! d[k + m2]! l1 l0 wr.drew
            rw [hq] at heq
            have HQ := Lib.hid hq; have F0 := Lib.hid f0; have F1 := Lib.hid f1; have L1 := Lib.hid l1; have HM2 := Lib.hid hm2
            have hdr := hst.drew
            clear hq f0 f1 l0 l1 hm2
            cases q with
            | true =>
              go_wp2
              refine wp_region_still_tail 9 (by kernel_rfl) (by kernel_rfl) ?_
              simp only [List.take_succ_cons, List.take_zero, List.drop_succ_cons, List.drop_zero]
              repeat still_step
              refine wpStill_load_agg rfl 27 (.tmp 37) rfl _ rfl _ F1.out ?_
              repeat still_step
              refine wpStill_load_agg rfl 27 (.tmp 42) rfl _ rfl _ F0.out ?_
              repeat still_step
              refine wpStill_nil ?_
              change wpList _ _ _ _ _ wr.drew
              go_wp2
              go_roundw
              case rel => exact ⟨j, i + 1, D, rfl, by simp, by omega, by omega, Lib.hid (HC.out.same hk1 (by rw [HD.out]; omega) (by rw [show k + i - 1 = k + m2 by have := HM2.out; omega]; exact of_decide_eq_true HQ.out) hi1), hdr⟩
              case measure => simp only [intOf]; omega
            | false =>
              have hjn : j < n := by omega
              have t0 : wr.drew.there g (j * 20) (bvs d[k + i]!).toArray.size := by
                have := hdr.holds.thereAt j (by rw [hdr.size]; exact hjn)
                simpa [L1.out] using this
              have s0 := run_storeVar_mid (P := Tryz.prog) wr.drew g (j * 20) 27 (bvs d[k + i]!).toArray t0 (info23 _ L1.out) (one_bvs _)
              rw [List.toList_toArray] at s0
              have hput := hdr.holds.put j (by rw [hdr.size]; exact hjn) d[k + i]! L1.out
              have kput := Kp.trans hdr.kp (kp_setCells g (bvs d[k + i]!) (j * 20) wr.drew)
              have S0 := Lib.hid s0; have PU := Lib.hid hput; have KU := Lib.hid kput
              have SZ := Lib.hid hdr.size
              clear t0 s0 hput kput
              go_wp2
              refine wp_region_still_tail 9 (by kernel_rfl) (by kernel_rfl) ?_
              simp only [List.take_succ_cons, List.take_zero, List.drop_succ_cons, List.drop_zero]
              repeat still_step
              refine wpStill_load_agg rfl 27 (.tmp 37) rfl _ rfl _ F1.out ?_
              repeat still_step
              refine wpStill_load_agg rfl 27 (.tmp 42) rfl _ rfl _ F0.out ?_
              repeat still_step
              refine wpStill_nil ?_
              change wpList _ _ _ _ _ wr.drew
              go_wp2_with (first
                | (refine wpList_loadG 27 (.tmp 49) rfl ⟨g, k * 20 + i * 20, none⟩ rfl (idv d[k + i]!) F1.out rfl ?_)
                | (refine wpList_plain rfl fun KK hKK => ?_; refine wp_storeV 27 (.tmp 51) (.tmp 50) rfl ⟨g, j * 20, none⟩ (idv d[k + i]!) rfl rfl S0.out ?_; refine hKK _ _ ?_; clear hKK KK))
              go_roundw
              case rel => exact ⟨j + 1, i + 1, _, by simp, by simp, by omega, by omega, Lib.hid (HC.out.put (SZ.out.trans HD.out.symm) hk1 (by rw [HD.out]; omega) (by rw [show k + i - 1 = k + m2 by have := HM2.out; omega]; exact of_decide_eq_false HQ.out) hi1), ⟨PU.out, by rw [Array.size_setIfInBounds]; exact SZ.out, KU.out⟩⟩
              case measure => simp only [intOf]; omega
          · obtain rfl : i = r := by omega
            have hcj : cap ≠ j := by omega
            have hjn : j ≤ n := by omega
            obtain ⟨w2, vs, hrun, hw2⟩ := run_clear g (j * 20) (cap - j) (n - j) wr (hst.holds.thereFrom j (n - j) (by rw [hst.size]; omega))
            have hids : Ids g w2 (cmpt d.toList n).toArray := by
              rw [hw2]
              have hl : (cmpt d.toList n).toArray.size = j := by rw [List.size_toArray, ← hrn, ← HC.out.len]
              refine Ids.tail (hst.holds.front (by rw [hl, hst.size]; exact hjn) (fun p hp => ?_)) _ (by rw [hl]; exact Nat.le_refl _) vs
              rw [HC.out.front p (by omega), hrn, ← td]
            have hkp : Kp (fun k => k = g) ws w2 := by rw [hw2]; exact Kp.trans hst.kp (kp_setCells g vs (j * 20) wr)
            have hjl2 : (cmpt d.toList n).length = j := by rw [← hrn, ← HC.out.len]
            have HI := Lib.hid hids; have HK := Lib.hid hkp; have HJ := Lib.hid hjl2
            clear hids hkp hw2 hst HC hjl2
            go_wp2
            go_ret
            exact ⟨by rw [HJ.out]; rfl, HI.out, Kp.trans KW.out HK.out⟩
    · obtain rfl : k = n := by omega
      have e : cmpt d.toList k = d.toList := by
        rw [cmpt_all d.toList k (by omega) (by rw [HL.out]; exact Nat.le_refl _) (fun j h1 h2 => by rw [td, td]; exact hne.out j h1 h2), List.take_of_length_le (by rw [HL.out]; exact Nat.le_refl _)]
      have HE := Lib.hid e
      clear e
      go_wp2
      go_ret
      exact ⟨by rw [HE.out, HL.out]; rfl, by rw [HE.out]; simpa using hst.holds, hst.kp⟩
end
section
open Go.RowKit
open Go.Sort (PermIn SortedIn ltStr swo_ltStr)
set_option maxRecDepth 100000
set_option maxHeartbeats 4000000
set_option linter.unusedVariables false
/-- the cells of a row of names -/
def idc (l : List (List UInt8)) : List Value := l.flatMap bvs
abbrev All20 (l : List (List UInt8)) : Prop := ∀ x ∈ l, x.length = 20
theorem idc_len : ∀ l : List (List UInt8), All20 l → (idc l).length = l.length * 20
  | [], _ => rfl
  | x :: l, h => by
    have ih := idc_len l (fun y hy => h y (by simp [hy]))
    have hx := h x (by simp)
    unfold idc at *
    rw [List.flatMap_cons, List.length_append, ih, bvs_length, hx, List.length_cons]; omega
theorem idc_at : ∀ (l : List (List UInt8)) (_ : All20 l) (i j : Nat), i < l.length → j < 20 → (idc l)[i * 20 + j]? = (bvs (l.getD i []))[j]?
  | [], _, i, _, h, _ => by simp at h
  | x :: l, ha, i, j, h, hj => by
    have hx : (bvs x).length = 20 := by rw [bvs_length]; exact ha x (by simp)
    have ih := idc_at l (fun y hy => ha y (by simp [hy]))
    unfold idc at *
    rw [List.flatMap_cons]
    cases i with
    | zero => rw [List.getElem?_append_left (by omega), Nat.zero_mul, Nat.zero_add]; rfl
    | succ i =>
      rw [List.getElem?_append_right (by omega), hx, show (i + 1) * 20 + j - 20 = i * 20 + j by omega, ih i j (by simpa using h) hj]
      rfl
theorem idc_one (l : List (List UInt8)) : ∀ u ∈ idc l, u.oneCell' = true := fun u hu => by
  obtain ⟨x, _, hx⟩ := List.mem_flatMap.1 hu
  exact bvs_one x u hx
theorem clone_any (n : Nat) (hn : n < 256) (A : Addr) (c : Nat) (xs : List Value) (w : World) (hl : xs.length = n * 20) (h1 : ∀ u ∈ xs, u.oneCell' = true) (hA : Sl w (some A) xs) :
    Calls Tryz.prog 113 #[.slice (some A) n c] w fun e w' => ∃ v, e = .returned v ∧ w'.ownsRow w.heap.size 27 20 v n xs ∧ Below w.heap.size w w' := by
  have hnil := Lib.run_eql_slice_nil (P := Tryz.prog) (t := 43) (e := 27) (a := some A) (n := n) (c := c) (n' := 0) (c' := 0) (h := Tryz.underlying43)
  have hbE : Below w.heap.size w (w.alloc (.cells #[] 27)) := (Below.refl _ _).alloc (Nat.le_refl _) _
  have hE : (w.alloc (.cells #[] 27)).ownsRow w.heap.size 27 20 (.slice (some ⟨w.heap.size, 0, none⟩) 0 0) 0 [] := World.ownsRow_lit w #[] 0 (Nat.le_refl _) (by unfold maxLen; omega) rfl
  have HE := Lib.hid hE; have HA := Lib.hid hA; have HL := Lib.hid hl
  clear hE hA hl
  go_enter Tryz.func113, Tryz.ntmps113
  go_wp2_with (at_builtin
               refine wpList_app rfl (.tmp 5) (.tmp 6) 43 rfl w.heap.size 27 (idv zs20) 20 20 Tryz.underlying43 Tryz.info23 (by show (bvs zs20).toArray.size = 20; simp [zs20_len]) (by decide) _ 0 [] rfl HE.out (some A) n c xs rfl HL.out (Sl.below HA.out hbE) h1 (by omega) (by unfold maxLen; omega) (by simp) ?_
               intro v2 w2 hw2 hg2)
  go_ret
  refine ⟨v2, rfl, by simpa using hw2, Below.app hbE HE.out hg2 (by simp)⟩
theorem clone_nil (w : World) : Calls Tryz.prog 113 #[.slice none 0 0] w fun e w' => e = .returned (.slice none 0 0) ∧ w = w' := by
  have hnil := Lib.run_eql_slice_nil (P := Tryz.prog) (t := 43) (e := 27) (a := none) (n := 0) (c := 0) (n' := 0) (c' := 0) (h := Tryz.underlying43)
  go_enter Tryz.func113, Tryz.ntmps113
  go_wp2
  go_ret
  exact ⟨rfl, rfl⟩
theorem sort_tiny (A : Option Addr) (n c : Nat) (h : n ≤ 1) (w : World) : Calls Tryz.prog 114 #[.iface 171 (.slice A n c)] w fun e w' => e = .returned (.tuple #[]) ∧ w = w' := by
  have kl := len80 A n c w
  have mS : ∀ (w : World), (method 350 171 (.slice A n c) "Len").run Tryz.prog w = .ok (202, .slice A n c) w := fun w => by kernel_rfl
  have cS : ∀ (w : World), (callFunc 202 #[.slice A n c]).run Tryz.prog w = .ok (.enter 202 #[.slice A n c]) w := fun w => by kernel_rfl
  have z1 : (n : Int) ≤ 1 := by omega
  go_enter Tryz.func114, Tryz.ntmps114
  go_wp2_with (go_at_call 202; (with_reducible refine kl.mono ?_); rintro e w1 ⟨rfl, rfl⟩)
  (try simp only [Exit.inBlock, Exit.then])
  refine bodyPost_ret (results_none rfl _ _ _) rfl ?_
  exact ⟨rfl, rfl⟩
theorem la_get (l : List (List UInt8)) (i : Nat) : l.toArray[i]! = l.getD i [] := by rw [← td]
theorem ids_of_own {w : World} {B : Nat} {v : Value} {l : List (List UInt8)} (h20 : All20 l) (h : w.ownsRow B 27 20 v l.length (idc l)) (hp : 0 < l.length) :
    ∃ g cap, v = .slice (some ⟨g, 0, none⟩) l.length cap ∧ B ≤ g ∧ l.length ≤ cap ∧ Ids g w l.toArray := by
  obtain ⟨hl, h⟩ := h
  rcases h with ⟨_, h0⟩ | ⟨g, cap, cur, rfl, hB, hg, hc, hm, hsz, ht⟩
  · omega
  · refine ⟨g, cap, rfl, hB, hc, fun i hi j v hj => ?_, fun j hj => ?_, fun i hi => ?_, (Array.getElem?_eq_some_iff.1 hg).1⟩
    · have hi' : i < l.length := by simpa using hi
      rw [la_get] at hj
      have hj20 : j < 20 := by
        have := (List.getElem?_eq_some_iff.1 hj).1
        rw [bvs_length] at this
        have h2 := h20 (l.getD i []) (by rw [List.getD_eq_getElem?_getD, List.getElem?_eq_getElem hi']; exact List.getElem_mem hi')
        omega
      rw [← idc_at l h20 i j hi' hj20, ← ht, List.getElem?_take] at hj
      split at hj
      · simp only [World.cell?, hg]
        simpa using hj
      · cases hj
    · have hj' : j < cur.size := by
        have : j < l.length * 20 := by simpa using hj
        rw [hsz]
        have := Nat.mul_le_mul_right 20 hc
        omega
      refine ⟨?_, ?_⟩
      · simp [World.cell?, hg, hj']
      · simp [World.frozen?, hg]
    · rw [la_get]
      have hi' : i < l.length := by simpa using hi
      exact h20 _ (by rw [List.getD_eq_getElem?_getD, List.getElem?_eq_getElem hi']; exact List.getElem_mem hi')
theorem ids_sl {g : Nat} {w : World} {L : List (List UInt8)} (h : Ids g w L.toArray) (h20 : All20 L) : Sl w (some ⟨g, 0, none⟩) (idc L) := fun j v hj => by
  have hlt := (List.getElem?_eq_some_iff.1 hj).1
  rw [idc_len L h20] at hlt
  have hi : j / 20 < L.length := by omega
  have e : j / 20 * 20 + j % 20 = j := by omega
  rw [← e, idc_at L h20 (j / 20) (j % 20) hi (by omega), ← la_get] at hj
  refine ⟨_, rfl, ?_⟩
  rw [add_plain, Nat.zero_add]
  have := h.at_ (j / 20) (by simpa using hi) (j % 20) v hj
  rwa [e] at this
end
section
open Go.RowKit
open Go.Sort (PermIn SortedIn ltStr swo_ltStr)
set_option maxRecDepth 100000
set_option maxHeartbeats 4000000
set_option linter.unusedVariables false
theorem sorted_list {l : List (List UInt8)} {d : Array (List UInt8)} (hp : PermIn 0 l.length l.toArray d) (hs : SortedIn ltStr 0 l.length d) :
    d.size = l.length ∧ Ris (cmpt d.toList l.length) ∧ ∀ x, x ∈ cmpt d.toList l.length ↔ x ∈ l := by
  obtain ⟨h1, _, h3⟩ := hp
  have hsz : d.size = l.length := by simpa using h1
  have e1 : d.extract 0 l.length = d := by rw [← hsz]; exact Array.extract_size
  have e2 : l.toArray.extract 0 l.length = l.toArray := by
    have : l.length = l.toArray.size := by simp
    rw [this]; exact Array.extract_size
  rw [e1, e2] at h3
  have hlen : d.toList.length = l.length := by simpa using hsz
  refine ⟨hsz, (cmpt_ris d.toList (fun i j hij hj => ?_) l.length (by omega)).1, fun x => ?_⟩
  · have := hs i j (Nat.zero_le _) hij (by omega)
    rw [← td, ← td] at this
    simpa [ltStr] using this
  · rw [cmpt_mem d.toList l.length (by omega) x, List.take_of_length_le (by omega)]
    simpa using h3.mem_iff
/-- what oid.Sort hands back -/
structure Sorted (w w' : World) (l : List (List UInt8)) (A : Option Addr) (L : List (List UInt8)) : Prop where
  ris : Ris L
  mem : ∀ x, x ∈ L ↔ x ∈ l
  sl : Sl w' A (idc L)
  below : Below w.heap.size w w'
  len : L.length ≤ l.length
theorem sort14 (hPQ : ∀ g n cap, n ≤ cap → n < 256 → PdqOK (.slice (some ⟨g, 0, none⟩) n cap) n g) (l : List (List UInt8)) (h20 : All20 l) (hn : l.length < 256) (A : Option Addr) (c : Nat) (w : World) (hA : Sl w A (idc l)) (h0 : A = none → c = 0) :
    Calls Tryz.prog 88 #[.slice A l.length c] w fun e w' => ∃ A' L, e = .returned (.slice A' L.length L.length) ∧ Sorted w w' l A' L := by
  by_cases h2 : l.length < 2
  · have hris : Ris l := by
      match l, h2 with
      | [], _ => exact List.Pairwise.nil
      | [x], _ => exact List.pairwise_singleton _ _
      | x :: y :: t, h => exact absurd h (by simp only [List.length_cons]; omega)
    cases A with
    | none =>
      have hl : l = [] := by
        cases l with
        | nil => rfl
        | cons x t =>
          have hlen := idc_len _ h20
          have : 0 < (idc (x :: t)).length := by rw [hlen]; simp
          obtain ⟨ad, e, _⟩ := hA 0 _ (List.getElem?_eq_getElem this)
          cases e
      subst hl
      have hc := h0 rfl
      subst hc
      have k1 := clone_nil w
      have k2 := sort_tiny none 0 0 (by omega) w
      have k3 := compact_small none 0 0 (by omega) w
      have k4 := clip32 none 0 0 (by omega) w
      go_enter Tryz.func88, Tryz.ntmps88
      go_wp2_with (first
        | (go_at_call 113; (with_reducible refine k1.mono ?_); rintro e w1 ⟨rfl, rfl⟩)
        | (go_at_call 114; (with_reducible refine k2.mono ?_); rintro e w1 ⟨rfl, rfl⟩)
        | (go_at_call 116; (with_reducible refine k3.mono ?_); rintro e w1 ⟨rfl, rfl⟩)
        | (go_at_call 115; (with_reducible refine k4.mono ?_); rintro e w1 ⟨rfl, rfl⟩))
      go_ret
      exact ⟨none, [], rfl, List.Pairwise.nil, fun x => Iff.rfl, Sl.nil _ _, Below.refl _ _, Nat.le_refl _⟩
    | some ad =>
      have k1 := clone_any l.length hn ad c (idc l) w (idc_len l h20) (idc_one l) hA
      have HR := Lib.hid hris
      obtain ⟨n, hnn⟩ : ∃ n, n = l.length := ⟨_, rfl⟩
      rw [← hnn] at k1 h2 ⊢
      have HN := Lib.hid hnn
      have hle1 : n ≤ 1 := by omega
      clear hA h0 hris hn hnn
      go_enter Tryz.func88, Tryz.ntmps88
      go_wp2_with (first
        | (go_at_call 113; (with_reducible refine k1.mono ?_); rintro e w1 ⟨v, rfl, hown, hb⟩
           obtain ⟨A1, c1, rfl, hc1, hs1⟩ : ∃ A1 c1, v = .slice A1 n c1 ∧ n ≤ c1 ∧ Sl w1 A1 (idc l) := by
             obtain ⟨A1, c1, hv, hc, _, hs⟩ := (Win.ofOwns hown).reads
             exact ⟨A1, c1, hv, hc, hs⟩
           have k2 := sort_tiny A1 n c1 hle1 w1
           have k3 := compact_small A1 n c1 h2 w1
           have k4 := clip32 A1 n c1 hc1 w1)
        | (go_at_call 114; (with_reducible refine k2.mono ?_); rintro e w1 ⟨rfl, rfl⟩)
        | (go_at_call 116; (with_reducible refine k3.mono ?_); rintro e w1 ⟨rfl, rfl⟩)
        | (go_at_call 115; (with_reducible refine k4.mono ?_); rintro e w1 ⟨rfl, rfl⟩))
      go_ret
      exact ⟨A1, l, by rw [← HN.out]; rfl, HR.out, fun x => Iff.rfl, hs1, hb, Nat.le_refl _⟩
  · obtain ⟨ad, rfl⟩ : ∃ ad, A = some ad := by
      cases A with
      | some ad => exact ⟨ad, rfl⟩
      | none =>
        have hlen := idc_len _ h20
        have : 0 < (idc l).length := by rw [hlen]; omega
        obtain ⟨ad, e, _⟩ := hA 0 _ (List.getElem?_eq_getElem this)
        cases e
    have k1 := clone_any l.length hn ad c (idc l) w (idc_len l h20) (idc_one l) hA
    obtain ⟨n, hnn⟩ : ∃ n, n = l.length := ⟨_, rfl⟩
    rw [← hnn] at k1 h2 hn ⊢
    have HN := Lib.hid hnn
    have H20 := Lib.hid h20
    have hn2 : 2 ≤ n := by omega
    have PQ := Lib.hid hPQ
    clear hA h0 hnn hPQ h20
    go_enter Tryz.func88, Tryz.ntmps88
    go_wp2_with (first
      | (go_at_call 113; (with_reducible refine k1.mono ?_); rintro e w1 ⟨v, rfl, hown, hb⟩
         rw [HN.out] at hown
         obtain ⟨g, cap, rfl, hBg, hcap, hid⟩ := ids_of_own H20.out hown (by have := HN.out; omega)
         rw [← HN.out] at hcap ⊢
         have k2 := sort_ids g n cap hcap hn (PQ.out g n cap hcap hn) l.toArray w1 hid (by rw [HN.out]; simp)
         clear hown hid)
      | (go_at_call 114; (with_reducible refine k2.mono ?_); rintro e w2 ⟨rfl, d', hst, hpm, hso⟩
         have k3 := compact_any g n cap hcap hn hn2 d' w2 hst.holds hst.size
         rw [HN.out] at hpm hso
         have SL := Lib.hid (sorted_list hpm hso)
         have HS := Lib.hid hst
         clear hpm hso hst)
      | (go_at_call 116; (with_reducible refine k3.mono ?_); rintro e w3 ⟨rfl, hid3, hk3⟩
         have hcl := cmpt_len d'.toList n
         obtain ⟨L, hL⟩ : ∃ L, L = cmpt d'.toList n := ⟨_, rfl⟩
         rw [← hL] at hid3 hcl ⊢
         obtain ⟨m, hm⟩ : ∃ m, m = L.length := ⟨_, rfl⟩
         rw [← hm] at hcl ⊢
         have k4 := clip32 (some ⟨g, 0, none⟩) m cap (by omega) w3
         have HLL := Lib.hid hL
         have HMM := Lib.hid hm
         have HI3 := Lib.hid hid3
         clear hL hm hid3)
      | (go_at_call 115; (with_reducible refine k4.mono ?_); rintro e w4 ⟨rfl, rfl⟩))
    go_ret
    have hS := SL.out
    rw [← HN.out, ← HLL.out] at hS
    have hL20 : All20 L := fun x hx => H20.out x ((hS.2.2 x).1 hx)
    refine ⟨some ⟨g, 0, none⟩, L, by rw [← HMM.out]; rfl, hS.2.1, hS.2.2, ids_sl HI3.out hL20, ?_, by rw [← HMM.out, ← HN.out]; exact hcl⟩
    have hkk := Kp.trans HS.out.kp hk3
    exact hb.trans (hkk.toBelow hb.size (fun k hk e => by omega))
end
section
open Go.RowKit
theorem all_pq : ∀ g n cap, n ≤ cap → n < 256 → PdqOK (.slice (some ⟨g, 0, none⟩) n cap) n g := by
  intro g n cap hcap hn a b lim d w hab hb hlim h hd hlow
  exact pdq_any (ids_srt g n cap hcap hn) hn Go.Sort.swo_ltStr (b - a + 1) a b lim d w (by omega) hab hb hlim h hd hlow
theorem sort_all (l : List (List UInt8)) (h20 : All20 l) (hn : l.length < 256) (A : Option Addr) (c : Nat) (w : World) (hA : Sl w A (idc l)) (h0 : A = none → c = 0) :
    Calls Tryz.prog 88 #[.slice A l.length c] w fun e w' => ∃ A' L, e = .returned (.slice A' L.length L.length) ∧ Sorted w w' l A' L := sort14 all_pq l h20 hn A c w hA h0
end
section
open Go.RowKit
open Go.Sort (ltStr)
set_option maxRecDepth 100000
set_option maxHeartbeats 4000000
set_option linter.unusedVariables false
theorem lt_at : ∀ (i : Nat) (a b : List UInt8) (ha : i < a.length) (hb : i < b.length), a.take i = b.take i → a[i] ≠ b[i] → ltStr a b = decide (a[i].toNat < b[i].toNat)
  | i, [], b, ha, _, _, _ => by simp at ha
  | i, a, [], _, hb, _, _ => by simp at hb
  | 0, x :: a, y :: b, _, _, _, hne => by
    simp only [List.getElem_cons_zero] at hne ⊢
    unfold ltStr
    refine decide_eq_decide.2 ?_
    rw [List.cons_lt_cons_iff]
    have l1 : x < y ↔ x.toNat < y.toNat := Iff.rfl
    constructor
    · rintro (h | ⟨h, _⟩)
      · have := l1.1 h; omega
      · exact absurd h hne
    · intro h; exact .inl (l1.2 (by omega))
  | i + 1, x :: a, y :: b, ha, hb, ht, hne => by
    rw [List.take_succ_cons, List.take_succ_cons] at ht
    injection ht with h1 h2
    subst h1
    have ih := lt_at i a b (by simpa using ha) (by simpa using hb) h2 (by simpa using hne)
    simp only [List.getElem_cons_succ]
    rw [← ih]
    unfold ltStr
    refine decide_eq_decide.2 ?_
    rw [List.cons_lt_cons_iff]
    have n1 : ¬ x < x := fun h => by have : x.toNat < x.toNat := h; omega
    simp [n1]
theorem lt_same (a : List UInt8) : ltStr a a = false := by simp [ltStr, List.lt_irrefl]
theorem refless_any (a b : List UInt8) (ha : a.length = 20) (hb : b.length = 20) (w : World) :
    Calls Tryz.prog 119 #[idv a, idv b] w fun e w' => e = .returned (.bool (ltStr a b)) ∧ Below w.heap.size w w' := by
  obtain ⟨W0, hW0⟩ : ∃ W0, W0 = (w.alloc (.cells (bvs a).toArray 26)).alloc (.cells (bvs b).toArray 26) := ⟨_, rfl⟩
  have hb0 : Below w.heap.size w W0 := by rw [hW0]; exact ((Below.refl _ _).alloc (Nat.le_refl _) _).alloc (by simp) _
  have A0 : Sl W0 (some ⟨w.heap.size, 0, none⟩) (bvs a) := by
    rw [hW0]
    exact (Sl.of_block (heap_alloc_new _ _) (fun j v hj => by simpa using hj)).below ((Below.refl _ _).alloc (Nat.le_refl _) _)
  have B0 : Sl W0 (some ⟨w.heap.size + 1, 0, none⟩) (bvs b) := by
    rw [hW0]
    have h := Sl.of_block (off := 0) (heap_alloc_new (w.alloc (.cells (bvs a).toArray 26)) (.cells (bvs b).toArray 26)) (l := bvs b) (fun j v hj => by simpa using hj)
    rwa [show (w.alloc (.cells (bvs a).toArray 26)).heap.size = w.heap.size + 1 by simp] at h
  obtain ⟨r, hr⟩ : ∃ r, r = ltStr a b := ⟨_, rfl⟩
  rw [← hr]
  have HR := Lib.hid hr
  have HW0 := Lib.hid hW0
  have HA0 := Lib.hid A0; have HB0 := Lib.hid B0; have Hb0 := Lib.hid hb0
  have HA := Lib.hid ha; have HB := Lib.hid hb
  clear hW0 A0 B0 hb0 ha hb hr
  go_enter Tryz.func119, Tryz.ntmps119
  go_upto_block 0 with (fail)
  rw [← HW0.out]
  go_wp2_with fail
  go_loopw [5] (fun t5 wr => ∃ i : Nat, t5 = .int .i64 (i : Int) ∧ i ≤ 20 ∧ Hid (a.take i = b.take i) ∧ Below W0.heap.size W0 wr) (fun t5 _ => (20 - intOf t5).toNat)
  case atStart => exact ⟨0, rfl, by omega, Lib.hid (by simp), Below.refl _ _⟩
  case round =>
    obtain ⟨i, rfl, hi, hT, hbw⟩ := hrel
    by_cases h20 : i < 20
    · have hia : i < a.length := by rw [HA.out]; exact h20
      have hib : i < b.length := by rw [HB.out]; exact h20
      obtain ⟨x, hx⟩ : ∃ x, x = a[i] := ⟨_, rfl⟩
      obtain ⟨y, hy⟩ : ∃ y, y = b[i] := ⟨_, rfl⟩
      obtain ⟨ad, e1, c1⟩ := Bs.at (Sl.below HA0.out hbw) hia
      injection e1 with e1
      subst e1
      rw [add_plain, Nat.zero_add, ← hx] at c1
      obtain ⟨ad, e1, c2⟩ := Bs.at (Sl.below HB0.out hbw) hib
      injection e1 with e1
      subst e1
      rw [add_plain, Nat.zero_add, ← hy] at c2
      have bx := x.toNat_lt
      have byy := y.toNat_lt
      have HX := Lib.hid hx; have HY := Lib.hid hy
      clear hx hy
      by_cases hxy : x = y
      · subst hxy
        go_wp2
        go_quiet (fail)
        go_wp2
        go_roundw
        case rel => exact ⟨i + 1, by simp, by omega, Lib.hid (by rw [List.take_succ_eq_append_getElem hia, List.take_succ_eq_append_getElem hib, hT.out, ← HX.out, ← HY.out]), Below.drewN hbw _⟩
        case measure => simp only [intOf]; omega
      · have hne : ¬ (x.toNat : Int) = (y.toNat : Int) := fun e => hxy (UInt8.toNat_inj.1 (by omega))
        have hne2 : ((x.toNat : Int) == (y.toNat : Int)) = false := beq_eq_false_iff_ne.2 hne
        have hlt := lt_at i a b hia hib hT.out (by rw [← HX.out, ← HY.out]; exact hxy)
        rw [← HX.out, ← HY.out] at hlt
        have HL := Lib.hid hlt
        clear hlt
        go_wp2
        go_quiet (fail)
        go_wp2
        go_quiet (fail)
        go_wp2
        go_ret
        exact ⟨by rw [HR.out, HL.out]; rfl, Hb0.out.trans ((Below.drewN (Below.drewN hbw _) _).mono Hb0.out.size)⟩
    · obtain rfl : i = 20 := by omega
      have e : a = b := by
        have := hT.out
        rwa [List.take_of_length_le (by rw [HA.out]; omega), List.take_of_length_le (by rw [HB.out]; omega)] at this
      have HE := Lib.hid e
      clear e
      go_wp2
      go_ret
      exact ⟨by rw [HR.out, HE.out, lt_same]; rfl, Hb0.out.trans (hbw.mono Hb0.out.size)⟩
end
section
open Go.RowKit
open Go.Sort (ltStr)
set_option maxRecDepth 100000
set_option maxHeartbeats 4000000
set_option linter.unusedVariables false
/-- the place of a name: how many stand ahead that are less -/
def fk (l : List (List UInt8)) (id : List UInt8) : Nat := (l.takeWhile (fun x => ltStr x id)).length
def fis (l : List (List UInt8)) (id : List UInt8) : Bool := decide (fk l id < l.length ∧ l.getD (fk l id) [] = id)
theorem fk_of : ∀ (l : List (List UInt8)) (id : List UInt8) (k : Nat), k ≤ l.length → (∀ j, j < k → ltStr (l.getD j []) id = true) → (k < l.length → ltStr (l.getD k []) id = false) → fk l id = k
  | [], id, k, h, _, _ => by simp at h; subst h; rfl
  | x :: l, id, 0, _, _, h3 => by
    have := h3 (by simp)
    simp at this
    simp [fk, List.takeWhile, this]
  | x :: l, id, k + 1, h1, h2, h3 => by
    have h0 := h2 0 (by omega)
    simp at h0
    have ih := fk_of l id k (by simpa using h1) (fun j hj => by simpa using h2 (j + 1) (by omega)) (fun hk => by simpa using h3 (by simpa using hk))
    unfold fk at *
    rw [List.takeWhile_cons, h0]
    simp [ih]
theorem sl_row {w : World} {ad : Addr} {l : List (List UInt8)} (h : Sl w (some ad) (idc l)) (h20 : All20 l) (i : Nat) (hi : i < l.length) : Sl w (some (ad.add (i * 20))) (bvs (l.getD i [])) := fun j v hj => by
  have hj20 : j < 20 := by
    have := (List.getElem?_eq_some_iff.1 hj).1
    rw [bvs_length] at this
    have h2 := h20 (l.getD i []) (by rw [List.getD_eq_getElem?_getD, List.getElem?_eq_getElem hi]; exact List.getElem_mem hi)
    omega
  rw [← idc_at l h20 i j hi hj20] at hj
  obtain ⟨ad', e, hc⟩ := h _ v hj
  injection e with e
  subst e
  exact ⟨_, rfl, by rw [Addr.add_add]; exact hc⟩
theorem get20 {l : List (List UInt8)} (h20 : All20 l) (i : Nat) (hi : i < l.length) : (l.getD i []).length = 20 :=
  h20 _ (by rw [List.getD_eq_getElem?_getD, List.getElem?_eq_getElem hi]; exact List.getElem_mem hi)
theorem sl_none {w : World} {l : List (List UInt8)} (h : Sl w none (idc l)) (h20 : All20 l) : l = [] := by
  cases l with
  | nil => rfl
  | cons x t =>
    have hlen := idc_len _ h20
    have : 0 < (idc (x :: t)).length := by rw [hlen]; simp
    obtain ⟨ad, e, _⟩ := h 0 _ (List.getElem?_eq_getElem this)
    cases e
theorem reffind_any (l : List (List UInt8)) (h20 : All20 l) (hn : l.length < 256) (A : Option Addr) (c : Nat) (id : List UInt8) (hid : id.length = 20) (w : World) (hA : Sl w A (idc l)) :
    Calls Tryz.prog 96 #[.slice A l.length c, idv id] w fun e w' => e = .returned (.tuple #[.int .i64 (fk l id : Nat), .bool (fis l id)]) ∧ Below w.heap.size w w' := by
  obtain ⟨n, hnn⟩ : ∃ n, n = l.length := ⟨_, rfl⟩
  rw [← hnn]
  obtain ⟨W0, hW0⟩ : ∃ W0, W0 = w.alloc (.cells (bvs id).toArray 26) := ⟨_, rfl⟩
  have hb0 : Below w.heap.size w W0 := by rw [hW0]; exact (Below.refl _ _).alloc (Nat.le_refl _) _
  have I0 : Sl W0 (some ⟨w.heap.size, 0, none⟩) (bvs id) := by
    rw [hW0]
    exact Sl.of_block (heap_alloc_new _ _) (fun j v hj => by simpa using hj)
  have A0 : Sl W0 A (idc l) := Sl.below hA hb0
  have HW0 := Lib.hid hW0; have HI0 := Lib.hid I0; have HA0 := Lib.hid A0; have Hb0 := Lib.hid hb0
  have H20 := Lib.hid h20; have HID := Lib.hid hid; have HN := Lib.hid hnn
  have hn2 : n < 256 := by rw [hnn]; exact hn
  clear hW0 I0 A0 hb0 h20 hid hnn hA hn
  go_enter Tryz.func96, Tryz.ntmps96
  go_upto_block 0 with (fail)
  rw [← HW0.out]
  go_wp2_with fail
  go_loopw [6] (fun t6 wr => ∃ i : Nat, t6 = .int .i64 (i : Int) ∧ i ≤ n ∧ Hid (∀ j, j < i → ltStr (l.getD j []) id = true) ∧ Below W0.heap.size W0 wr) (fun t6 _ => (n - intOf t6).toNat)
  case atStart => exact ⟨0, rfl, by omega, Lib.hid (fun j hj => by omega), Below.refl _ _⟩
  case round =>
    obtain ⟨i, rfl, hi, hT, hbw⟩ := hrel
    by_cases hin : i < n
    · have hil : i < l.length := by rw [← HN.out]; exact hin
      obtain ⟨ad, rfl⟩ : ∃ ad, A = some ad := by
        cases A with
        | some ad => exact ⟨ad, rfl⟩
        | none =>
          have := sl_none HA0.out H20.out
          rw [this] at hil
          simp at hil
      have hr := sl_row HA0.out H20.out i hil
      obtain ⟨x, hx⟩ : ∃ x, x = l.getD i [] := ⟨_, rfl⟩
      have hx20 := get20 H20.out i hil
      rw [← hx] at hr hx20
      have lx : ∀ w', Below wr.heap.size wr w' → (loadVar 26 (ad.add (i * 20))).run Tryz.prog w' = .ok (idv x) w' := fun w' h => load_id22 x hx20 _ _ ((hr.below hbw).below h)
      have li : ∀ w', Below wr.heap.size wr w' → (loadVar 26 ⟨w.heap.size, 0, none⟩).run Tryz.prog w' = .ok (idv id) w' := fun w' h => load_id22 id HID.out _ _ ((HI0.out.below hbw).below h)
      obtain ⟨q, hq⟩ : ∃ q, ltStr x id = q := ⟨_, rfl⟩
      have c1 : ∀ w', Below wr.heap.size wr w' → Calls Tryz.prog 119 #[idv x, idv id] w' fun e w'' => e = .returned (.bool q) ∧ Below wr.heap.size wr w'' := fun w' h => by
        have := quietB h (refless_any x id hx20 HID.out w'); rwa [hq] at this
      have LX := Lib.hid lx; have LI := Lib.hid li; have HX := Lib.hid hx; have HQ := Lib.hid hq
      have HX20 := Lib.hid hx20
      clear lx li hx hq hr hx20
      cases q with
      | true =>
        go_wp2
        refine wp_region_quietC (C := fun w' => Below wr.heap.size wr w') (Below.refl _ _).drew (by kernel_rfl) (by kernel_rfl) ?_
        repeat (first
          | (refine wpQuiet_load 26 (.tmp 15) rfl (ad.add (i * 20)) rfl (idv x) LX.out _ rfl rfl ?_; simp only [List.set_cons_succ, List.set_cons_zero])
          | (refine wpQuiet_load 26 (.tmp 3) rfl ⟨w.heap.size, 0, none⟩ rfl (idv id) LI.out _ rfl rfl ?_; simp only [List.set_cons_succ, List.set_cons_zero])
          | go_big_quiet_step ((intro hb; first | (with_reducible exact c1 _ hb) | rfl)))
        refine wpQuiet_nil ?_
        intro w' hw'
        go_wp2
        go_roundw
        case rel => exact ⟨i + 1, by simp, by omega, Lib.hid (fun j hj => by
          by_cases e : j = i
          · subst e; rw [← HX.out]; exact HQ.out
          · exact hT.out j (by omega)), hbw.trans (hw'.mono hbw.size)⟩
        case measure => simp only [intOf]; omega
      | false =>
        have hfk : fk l id = i := fk_of l id i (by omega) hT.out (fun _ => by rw [← HX.out]; exact HQ.out)
        have hfis : fis l id = decide (x = id) := by
          unfold fis
          rw [hfk, ← HX.out]
          simp [hil]
        have e1 : ∀ w, (Op.equalIn 10000 26 (idv x) (idv id)).run Tryz.prog w = .ok (decide (x = id)) w := fun w => eqlIn_run 26 Tryz.underlying26 x id HX20.out HID.out w
        obtain ⟨z, hz⟩ : ∃ z, z = decide (x = id) := ⟨_, rfl⟩
        rw [← hz] at e1 hfis
        have HFK := Lib.hid hfk; have HFI := Lib.hid hfis
        clear hfk hfis hz
        go_wp2
        refine wp_region_quietC (C := fun w' => Below wr.heap.size wr w') (Below.refl _ _).drew (by kernel_rfl) (by kernel_rfl) ?_
        repeat (first
          | (refine wpQuiet_load 26 (.tmp 15) rfl (ad.add (i * 20)) rfl (idv x) LX.out _ rfl rfl ?_; simp only [List.set_cons_succ, List.set_cons_zero])
          | (refine wpQuiet_load 26 (.tmp 3) rfl ⟨w.heap.size, 0, none⟩ rfl (idv id) LI.out _ rfl rfl ?_; simp only [List.set_cons_succ, List.set_cons_zero])
          | go_big_quiet_step ((intro hb; first | (with_reducible exact c1 _ hb) | rfl)))
        refine wpQuiet_nil ?_
        intro w' hw'
        go_wp2
        have lx2 : ∀ w'', Below w'.heap.size w' w'' → (loadVar 26 (ad.add (i * 20))).run Tryz.prog w'' = .ok (idv x) w'' := fun w'' h => LX.out w'' (hw'.trans (h.mono hw'.size))
        have li2 : ∀ w'', Below w'.heap.size w' w'' → (loadVar 26 ⟨w.heap.size, 0, none⟩).run Tryz.prog w'' = .ok (idv id) w'' := fun w'' h => LI.out w'' (hw'.trans (h.mono hw'.size))
        have LX2 := Lib.hid lx2; have LI2 := Lib.hid li2
        clear lx2 li2
        refine wp_region_quietC (C := fun w'' => Below w'.heap.size w' w'') (Below.refl _ _).drew (by kernel_rfl) (by kernel_rfl) ?_
        repeat (first
          | (refine wpQuiet_load 26 (.tmp 23) rfl (ad.add (i * 20)) rfl (idv x) LX2.out _ rfl rfl ?_; simp only [List.set_cons_succ, List.set_cons_zero])
          | (refine wpQuiet_load 26 (.tmp 3) rfl ⟨w.heap.size, 0, none⟩ rfl (idv id) LI2.out _ rfl rfl ?_; simp only [List.set_cons_succ, List.set_cons_zero])
          | go_big_quiet_step ((intro hb; rfl)))
        refine wpQuiet_nil ?_
        intro w'' hw''
        go_wp2
        go_ret2
        exact ⟨by rw [HFK.out, HFI.out]; rfl, Hb0.out.trans ((hbw.trans ((hw'.trans (hw''.mono hw'.size)).mono hbw.size)).mono Hb0.out.size)⟩
    · obtain rfl : i = n := by omega
      have hfk : fk l id = i := fk_of l id i (by rw [HN.out]; exact Nat.le_refl _) hT.out (fun h => absurd h (by rw [← HN.out]; omega))
      have hfis : fis l id = false := by
        unfold fis
        rw [hfk]
        exact decide_eq_false (fun h => absurd h.1 (by rw [← HN.out]; omega))
      have HFK := Lib.hid hfk; have HFI := Lib.hid hfis
      clear hfk hfis
      go_wp2
      go_ret2
      exact ⟨by rw [HFK.out, HFI.out]; rfl, Hb0.out.trans (hbw.mono Hb0.out.size)⟩
end
section
open Go.RowKit
set_option maxRecDepth 100000
set_option maxHeartbeats 4000000
set_option linter.unusedVariables false
theorem Tryz.info22 : (Tryz.prog.info? 26).map (fun i => (i.zero, i.size, i.bytes)) = some (some (idv zs20), 20, 20) := by kernel_rfl
theorem fold_set : ∀ (xs : List Value) (k : Nat) (cs : Array Value), cs.size = k + xs.length → List.foldl (fun cs x => cs.setIfInBounds x.snd x.fst) cs (xs.zipIdx k) = (cs.toList.take k ++ xs).toArray
  | [], k, cs, h => by
    have : cs.toList.take k = cs.toList := List.take_of_length_le (by simp at h; simp; omega)
    simp [this]
  | x :: xs, k, cs, h => by
    rw [List.zipIdx_cons, List.foldl_cons, fold_set xs (k + 1) (cs.setIfInBounds k x) (by simp at h ⊢; omega)]
    have hk : k < cs.toList.length := by simp at h; simp; omega
    congr 1
    simp only [Array.toList_setIfInBounds]
    rw [List.take_succ_eq_append_getElem (by simpa using hk)]
    simp [List.getElem_set_self, List.take_set_of_le]
theorem fold_lit (x : List UInt8) (hx : x.length = 20) : List.foldl (fun cs x => cs.setIfInBounds x.snd x.fst) (bvs zs20).toArray (bvs x).zipIdx = (bvs x).toArray := by
  have := fold_set (bvs x) 0 (bvs zs20).toArray (by simp [hx, zs20_len])
  simpa using this
theorem idc_snoc (l : List (List UInt8)) (i : Nat) (hi : i < l.length) : idc (l.take (i + 1)) = idc (l.take i) ++ bvs (l.getD i []) := by
  rw [List.take_succ_eq_append_getElem hi]
  unfold idc
  rw [List.flatMap_append]
  have : l.getD i [] = l[i] := by rw [List.getD_eq_getElem?_getD, List.getElem?_eq_getElem hi]; rfl
  rw [this]
  simp
theorem of_any (l : List (List UInt8)) (h20 : All20 l) (hn : l.length < 256) (A : Option Addr) (c : Nat) (w : World) (hA : Sl w A (idc l)) :
    Calls Tryz.prog 50 #[.slice A l.length c] w fun e w' => ∃ v, e = .returned v ∧ w'.ownsRow w.heap.size 26 20 v l.length (idc l) ∧ Below w.heap.size w w' := by
  obtain ⟨n, hnn⟩ : ∃ n, n = l.length := ⟨_, rfl⟩
  rw [← hnn]
  have hn2 : n < 256 := by rw [hnn]; exact hn
  have H20 := Lib.hid h20; have HN := Lib.hid hnn; have HA := Lib.hid hA
  have own0 : w.ownsRow w.heap.size 26 20 (.slice none 0 0) 0 (idc (l.take 0)) := ⟨by simp [idc], .inl ⟨rfl, rfl⟩⟩
  clear h20 hnn hA hn
  go_enter Tryz.func50, Tryz.ntmps50
  go_wp2
  go_loopw [3, 4] (fun t3 t4 wr => ∃ i : Nat, t4 = .int .i64 (i : Int) ∧ i ≤ n ∧ wr.ownsRow w.heap.size 26 20 t3 i (idc (l.take i)) ∧ Below w.heap.size w wr) (fun _ t4 _ => (n - intOf t4).toNat)
  case atStart => exact ⟨0, rfl, by omega, own0, Below.refl _ _⟩
  case round =>
    clear own0
    obtain ⟨i, rfl, hi, hown, hbw⟩ := hrel
    by_cases hin : i < n
    · have hil : i < l.length := by rw [← HN.out]; exact hin
      obtain ⟨ad, rfl⟩ : ∃ ad, A = some ad := by
        cases A with
        | some ad => exact ⟨ad, rfl⟩
        | none =>
          have := sl_none HA.out H20.out
          rw [this] at hil
          simp at hil
      have hr := (sl_row HA.out H20.out i hil).below hbw
      obtain ⟨x, hx⟩ : ∃ x, x = l.getD i [] := ⟨_, rfl⟩
      have hx20 := get20 H20.out i hil
      rw [← hx] at hr hx20
      have lx := load_id x hx20 _ _ hr
      have HX := Lib.hid hx; have HX20 := Lib.hid hx20; have LX := Lib.hid lx; have OW := Lib.hid hown
      clear hx hx20 hr lx hown
      have fl := fold_lit x HX20.out
      rw [← zlit] at fl
      have hba : Below wr.heap.size wr (wr.alloc (.cells (bvs x).toArray 26)) := (Below.refl _ _).alloc (Nat.le_refl _) _
      have ow2 := Lib.hid (ownsRow_below OW.out hba)
      have sx := Lib.hid (Sl.of_block (off := 0) (heap_alloc_new wr (.cells (bvs x).toArray 26)) (l := bvs x) (fun j v hj => by simpa using hj))
      have hbw2 := Lib.hid (hbw.trans (hba.mono hbw.size))
      have h1 := hbw.size
      have hxl := HX20.out
      clear hbw OW
      go_wp2_with (first
        | (refine wpList_loadG 27 (.tmp 14) rfl (ad.add (i * 20)) rfl (idv x) LX.out rfl ?_)
        | (at_builtin
           refine wpList_app rfl (.tmp 11) (.tmp 16) 52 rfl w.heap.size 26 (idv zs20) 20 20 Tryz.underlying52 Tryz.info22 (by show (bvs zs20).toArray.size = 20; simp [zs20_len]) (by decide) _ i (idc (l.take i)) rfl ow2.out (some ⟨wr.heap.size, 0, none⟩) 1 1 (bvs x) rfl (by simp [HX20.out]) sx.out (bvs_one x) (by omega) (by unfold maxLen; omega) (by simp; omega) ?_
           intro v2 w2 hw2 hg2))
      go_roundw
      case rel => exact ⟨i + 1, by simp, by omega, by rw [idc_snoc l i hil, ← HX.out]; exact hw2, Below.app hbw2.out ow2.out hg2 (by simp; omega)⟩
      case measure => simp only [intOf]; omega
    · obtain rfl : i = n := by omega
      go_wp2
      go_ret
      exact ⟨_, rfl, by rw [HN.out, List.take_of_length_le (Nat.le_refl _), ← HN.out] at hown; exact hown, hbw⟩
end
section
open Go.RowKit
set_option maxRecDepth 100000
set_option maxHeartbeats 4000000
set_option linter.unusedVariables false
theorem same_any (l m : List (List UInt8)) (h20 : All20 l) (g20 : All20 m) (hn : l.length < 256) (hm : m.length < 256) (A B : Option Addr) (c d : Nat) (w : World) (hA : Sl w A (idc l)) (hB : Sl w B (idc m)) :
    Calls Tryz.prog 41 #[.slice A l.length c, .slice B m.length d] w fun e w' => e = .returned (.bool (decide (l = m))) ∧ Below w.heap.size w w' := by
  by_cases hlen : l.length = m.length
  · obtain ⟨n, hnn⟩ : ∃ n, n = l.length := ⟨_, rfl⟩
    rw [← hlen, ← hnn]
    obtain ⟨r, hr⟩ : ∃ r, r = decide (l = m) := ⟨_, rfl⟩
    rw [← hr]
    have hn2 : n < 256 := by rw [hnn]; exact hn
    have H20 := Lib.hid h20; have G20 := Lib.hid g20; have HN := Lib.hid hnn; have HM := Lib.hid (hnn.trans hlen); have HA := Lib.hid hA; have HB := Lib.hid hB; have HR := Lib.hid hr
    clear h20 g20 hnn hA hB hr hn hm hlen
    go_enter Tryz.func41, Tryz.ntmps41
    go_wp2
    go_loopw [5] (fun t5 wr => ∃ i : Nat, t5 = .int .i64 (i : Int) ∧ i ≤ n ∧ Hid (∀ j, j < i → l.getD j [] = m.getD j []) ∧ Below w.heap.size w wr) (fun t5 _ => (n - intOf t5).toNat)
    case atStart => exact ⟨0, rfl, by omega, Lib.hid (fun j hj => by omega), Below.refl _ _⟩
    case round =>
      obtain ⟨i, rfl, hi, hT, hbw⟩ := hrel
      by_cases hin : i < n
      · have hil : i < l.length := by rw [← HN.out]; exact hin
        have him : i < m.length := by rw [← HM.out]; exact hin
        obtain ⟨ad, rfl⟩ : ∃ ad, A = some ad := by
          cases A with
          | some ad => exact ⟨ad, rfl⟩
          | none =>
            have := sl_none HA.out H20.out
            rw [this] at hil
            simp at hil
        obtain ⟨bd, rfl⟩ : ∃ bd, B = some bd := by
          cases B with
          | some bd => exact ⟨bd, rfl⟩
          | none =>
            have := sl_none HB.out G20.out
            rw [this] at him
            simp at him
        obtain ⟨x, hx⟩ : ∃ x, x = l.getD i [] := ⟨_, rfl⟩
        obtain ⟨y, hy⟩ : ∃ y, y = m.getD i [] := ⟨_, rfl⟩
        have hx20 := get20 H20.out i hil
        have hy20 := get20 G20.out i him
        have hrx := (sl_row HA.out H20.out i hil).below hbw
        have hry := (sl_row HB.out G20.out i him).below hbw
        rw [← hx] at hx20 hrx
        rw [← hy] at hy20 hry
        have lx : ∀ w', Below wr.heap.size wr w' → (loadVar 27 (ad.add (i * 20))).run Tryz.prog w' = .ok (idv x) w' := fun w' h => load_id x hx20 _ _ (hrx.below h)
        have ly : ∀ w', Below wr.heap.size wr w' → (loadVar 26 (bd.add (i * 20))).run Tryz.prog w' = .ok (idv y) w' := fun w' h => load_id22 y hy20 _ _ (hry.below h)
        obtain ⟨q, hq⟩ : ∃ q, decide (x = y) = q := ⟨_, rfl⟩
        have e1 : ∀ w, (Op.equalIn 10000 27 (idv x) (idv y)).run Tryz.prog w = .ok q w := fun w => by rw [eqlIn_run 27 Tryz.underlying27 x y hx20 hy20 w, hq]
        have LX := Lib.hid lx; have LY := Lib.hid ly; have HX := Lib.hid hx; have HY := Lib.hid hy; have HQ := Lib.hid hq
        clear lx ly hx hy hq hrx hry hx20 hy20
        cases q with
        | true =>
          go_wp2
          refine wp_region_quietC (C := fun w' => Below wr.heap.size wr w') (Below.refl _ _).drew (by kernel_rfl) (by kernel_rfl) ?_
          repeat (first
            | (refine wpQuiet_load 27 (.tmp 19) rfl (ad.add (i * 20)) rfl (idv x) LX.out _ rfl rfl ?_; simp only [List.set_cons_succ, List.set_cons_zero])
            | (refine wpQuiet_load 26 (.tmp 23) rfl (bd.add (i * 20)) rfl (idv y) LY.out _ rfl rfl ?_; simp only [List.set_cons_succ, List.set_cons_zero])
            | go_big_quiet_step ((intro hb; rfl)))
          refine wpQuiet_nil ?_
          intro w' hw'
          go_wp2
          go_roundw
          case rel => exact ⟨i + 1, by simp, by omega, Lib.hid (fun j hj => by
            by_cases e : j = i
            · subst e; rw [← HX.out, ← HY.out]; exact of_decide_eq_true HQ.out
            · exact hT.out j (by omega)), hbw.trans (hw'.mono hbw.size)⟩
          case measure => simp only [intOf]; omega
        | false =>
          go_wp2
          refine wp_region_quietC (C := fun w' => Below wr.heap.size wr w') (Below.refl _ _).drew (by kernel_rfl) (by kernel_rfl) ?_
          repeat (first
            | (refine wpQuiet_load 27 (.tmp 19) rfl (ad.add (i * 20)) rfl (idv x) LX.out _ rfl rfl ?_; simp only [List.set_cons_succ, List.set_cons_zero])
            | (refine wpQuiet_load 26 (.tmp 23) rfl (bd.add (i * 20)) rfl (idv y) LY.out _ rfl rfl ?_; simp only [List.set_cons_succ, List.set_cons_zero])
            | go_big_quiet_step ((intro hb; rfl)))
          refine wpQuiet_nil ?_
          intro w' hw'
          go_wp2
          go_ret
          exact ⟨by rw [HR.out, decide_eq_false (fun e => of_decide_eq_false HQ.out (by rw [HX.out, HY.out, e]))]; rfl, hbw.trans (hw'.mono hbw.size)⟩
      · obtain rfl : i = n := by omega
        have e : l = m := by
          refine List.ext_getElem (by rw [← HN.out, ← HM.out]) fun j h1 h2 => ?_
          have := hT.out j (by rw [HN.out]; exact h1)
          rw [List.getD_eq_getElem?_getD, List.getD_eq_getElem?_getD, List.getElem?_eq_getElem h1, List.getElem?_eq_getElem h2] at this
          exact this
        have HE := Lib.hid e
        clear e
        go_wp2
        go_ret
        exact ⟨by rw [HR.out, decide_eq_true HE.out]; rfl, hbw⟩
  · have hne : ¬ (l.length : Int) = (m.length : Int) := by omega
    have hne2 : ((l.length : Int) == (m.length : Int)) = false := beq_eq_false_iff_ne.2 hne
    have e : decide (l = m) = false := decide_eq_false (fun e => hlen (by rw [e]))
    rw [e]
    clear hlen e hA hB h20 g20
    generalize l.length = n at *
    generalize m.length = k at *
    go_enter Tryz.func41, Tryz.ntmps41
    go_wp2
    go_ret
    exact ⟨rfl, Below.refl _ _⟩
end
section
open Go.RowKit Go.ChangeShapes Go.WideShapes
set_option maxRecDepth 100000
set_option maxHeartbeats 4000000
set_option linter.unusedVariables false
theorem id_of_trod {H : Type} {enc : TypeId × Value → H} {W : World} {base : Nat} {sp : Nat → Bool} {held : Bool} {fuel : Nat} {T : TypeId} (hT : Tryz.prog.underlying T = some (.array 20 5)) (hs : (Tryz.prog.info? T).map (·.size) = some 20) {cs : List Value} {x : DataW H × List MemPlace}
    (hlen : cs.length = 20) (hf : DataW.trod enc Tryz.prog W base sp held fuel T cs = some x) : ∃ l : List UInt8, cs = bvs l ∧ l.length = 20 := by
  have hc1 : Tryz.prog.cellsOf 5 = 1 := by kernel_rfl
  have hcT : Tryz.prog.cellsOf T = 20 := by
    unfold Program.cellsOf
    cases hq : Tryz.prog.info? T with
    | none => simp [hq] at hs
    | some i => simpa [hq] using hs
  cases fuel with
  | zero => simp [DataW.trod] at hf
  | succ m =>
    rw [DataW.trod_step] at hf
    unfold DataW.trodStep at hf
    simp only [hT] at hf
    rw [if_pos (by rw [hcT]; exact hlen)] at hf
    simp only [Option.map_eq_some_iff] at hf
    obtain ⟨ys, hy, e1⟩ := hf
    have hall := cells_of_mapM Tryz.underlying5 _ ys hy
    rw [hc1] at hall
    refine ⟨cs.map fun v => match v with | .int _ a => UInt8.ofNat a.toNat | _ => 0, ?_, by simpa using hlen⟩
    apply List.ext_getElem
    · simp
    intro i h1 h3
    obtain ⟨a, ha, wa⟩ := hall i (by simp; omega)
    have hg : cs[i] = .int .u8 a := by
      have : (cs.drop (i * 1)).take 1 = [cs[i]] := by
        rw [Nat.mul_one, List.drop_eq_getElem_cons h1]; rfl
      rw [this] at ha
      simpa using ha
    have hb := bounds_u8 wa
    simp only [bvs, List.getElem_map, bv]
    rw [hg]
    simp
    omega
theorem ids_of_trod {H : Type} {enc : TypeId × Value → H} {w : World} {base : Nat} {held : Bool} {fuel : Nat} {A : Option Addr} {n c : Nat} {x : DataW H × List MemPlace}
    (h : DataW.trod enc Tryz.prog w base (fun _ => true) held fuel 43 [.slice A n c] = some x) : ∃ l : List (List UInt8), n = l.length ∧ l.length ≤ c ∧ c ≤ maxLen ∧ All20 l ∧ Sl w A (idc l) ∧ (A = none → c = 0) := by
  rcases Go.Deep.open_slice Tryz.underlying43 h with ⟨hcs, _⟩ | ⟨a, len, cap, m, k, D, Pl, hcs, hb, hl, hm, hmm, _, hx⟩
  · simp at hcs
    obtain ⟨rfl, rfl, rfl⟩ := hcs
    exact ⟨[], rfl, by simp, by simp, fun x hx => by simp at hx, Sl.nil _ _, fun _ => rfl⟩
  · simp at hcs
    obtain ⟨rfl, rfl, rfl⟩ := hcs
    simp only [if_true] at hmm
    have ce : Tryz.prog.cellsOf 27 = 20 := by kernel_rfl
    have each : ∀ i, i < n → ∃ y : List UInt8, y.length = 20 ∧ Sl w (some (a.add (i * 20))) (bvs y) := by
      intro i hi
      obtain ⟨cs', h1, h2⟩ := hx i (by omega)
      rw [ce] at h1
      obtain ⟨_, hlen, hcell⟩ := World.cells?_some h1
      obtain ⟨y, e, hy⟩ := id_of_trod Tryz.underlying27 (by kernel_rfl) hlen h2
      refine ⟨y, hy, fun j v hj => ⟨_, rfl, ?_⟩⟩
      have hj20 : j < 20 := by
        have := (List.getElem?_eq_some_iff.1 hj).1
        rw [bvs_length, hy] at this
        exact this
      rw [hcell j hj20, e]
      exact hj
    obtain ⟨V, hV⟩ := Go.Deep.choose_lt each
    have h20 : All20 ((List.range n).map V) := fun x hx => by
      obtain ⟨i, hi, rfl⟩ := List.mem_map.1 hx
      exact (hV i (by simpa using hi)).1
    refine ⟨(List.range n).map V, by simp, by simpa using hl, hm, h20, fun j v hj => ?_, fun e => by cases e⟩
    have hlt := (List.getElem?_eq_some_iff.1 hj).1
    rw [idc_len _ h20] at hlt
    simp at hlt
    have hi : j / 20 < n := by omega
    have e : j / 20 * 20 + j % 20 = j := by omega
    rw [← e, idc_at _ h20 (j / 20) (j % 20) (by simpa using hi) (by omega)] at hj
    have eV : ((List.range n).map V).getD (j / 20) [] = V (j / 20) := by
      rw [List.getD_eq_getElem?_getD]
      simp [hi]
    rw [eV] at hj
    obtain ⟨ad, e2, hc⟩ := (hV (j / 20) hi).2 (j % 20) v hj
    injection e2 with e2
    subst e2
    rw [Addr.add_add, e] at hc
    exact ⟨_, rfl, hc⟩
end
end Go.Proofs.YtcedfapcpmedfaaGreatDoor
