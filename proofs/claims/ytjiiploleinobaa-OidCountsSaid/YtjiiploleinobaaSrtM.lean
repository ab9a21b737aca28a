/- A row of names: its methods Less and Swap. Conditions: each name has twenty bytes. -/
import Derived.Test.YtjiiploleinobaaSrtA
import Derived.Test.YtjiiploleinobaaOidI
import Derived.Deep.MidRow
namespace Go.Proofs.Ytjiiploleinobaa
open Go.RowKit
open Go.Sort (swp)
set_option maxRecDepth 100000
set_option maxHeartbeats 4000000
set_option linter.unusedVariables false
/-- block g holds the names d, one behind the other, from its begin on -/
structure Ids (g : Nat) (W : World) (d : Array (List UInt8)) : Prop where
  at_ : ∀ i, i < d.size → W.rangeAt g (i * 20) (bvs d[i]!)
  free : W.there g 0 (d.size * 20)
  len : ∀ i, i < d.size → d[i]!.length = 20
  dom : g < W.heap.size
theorem cell_same {W W' : World} {g : Nat} (h : W'.heap[g]? = W.heap[g]?) (o : Nat) : W'.cell? ⟨g, o, none⟩ = W.cell? ⟨g, o, none⟩ := by simp only [World.cell?, h]
theorem frozen_same {W W' : World} {g : Nat} (h : W'.heap[g]? = W.heap[g]?) (o : Nat) : W'.frozen? ⟨g, o, none⟩ = W.frozen? ⟨g, o, none⟩ := by simp only [World.frozen?, h]
theorem Ids.keep {g : Nat} {W W' : World} {d : Array (List UInt8)} (h : Ids g W d) (e : W'.heap[g]? = W.heap[g]?) : Ids g W' d :=
  ⟨fun i hi j v hv => (cell_same e _).trans (h.at_ i hi j v hv), fun j hj => ⟨by rw [cell_same e]; exact (h.free j hj).1, by rw [frozen_same e]; exact (h.free j hj).2⟩, h.len, by
    have h1 := Array.getElem?_eq_getElem h.dom
    rw [← e] at h1
    exact (Array.getElem?_eq_some_iff.1 h1).1⟩
theorem range_sl {W : World} {g o : Nat} {cs : List Value} (h : W.rangeAt g o cs) : Sl W (some ⟨g, o, none⟩) cs := fun j v hv => ⟨_, rfl, by rw [add_plain]; exact h j v hv⟩
theorem Ids.load {g : Nat} {W : World} {d : Array (List UInt8)} (h : Ids g W d) (i : Nat) (hi : i < d.size) : (loadVar 23 ⟨g, i * 20, none⟩).run Try.prog W = .ok (idv d[i]!) W :=
  load_id _ (h.len i hi) _ _ (range_sl (h.at_ i hi))
theorem Ids.drew {g : Nat} {W : World} {d : Array (List UInt8)} (h : Ids g W d) : Ids g W.drew d := h.keep rfl
theorem Ids.thereAt {g : Nat} {W : World} {d : Array (List UInt8)} (h : Ids g W d) (i : Nat) (hi : i < d.size) : W.there g (i * 20) 20 := fun j hj => by
  have := h.free (i * 20 + j) (by omega)
  rwa [Nat.zero_add] at this
theorem swp_get (d : Array (List UInt8)) (i j k : Nat) (hi : i < d.size) (hj : j < d.size) (hk : k < d.size) : (swp d i j)[k]! = if k = j then d[i]! else if k = i then d[j]! else d[k]! := by
  unfold swp
  have hs : k < ((d.setIfInBounds i d[j]!).setIfInBounds j d[i]!).size := by simp; exact hk
  rw [getElem!_pos ((d.setIfInBounds i d[j]!).setIfInBounds j d[i]!) k hs, Array.getElem_setIfInBounds (by simpa using hk)]
  by_cases e : j = k
  · subst e; simp
  · rw [if_neg e, if_neg (Ne.symm e), Array.getElem_setIfInBounds hk]
    by_cases e2 : i = k
    · subst e2; simp
    · rw [if_neg e2, if_neg (Ne.symm e2), getElem!_pos d k hk]
theorem kp_setCells (g : Nat) : ∀ (vs : List Value) (o : Nat) (w : World), Kp (fun k => k = g) w (w.setCells g o vs)
  | [], o, w => Kp.refl _ _
  | v :: r, o, w => by
    rw [World.setCells]
    exact Kp.trans ((Kp.refl (fun k => k = g) w).setCell (p := ⟨g, o, none⟩) (.inl rfl) v) (kp_setCells g r (o + 1) _)
/-- a name goes to its place -/
theorem Ids.put {g : Nat} {W : World} {d : Array (List UInt8)} (h : Ids g W d) (i : Nat) (hi : i < d.size) (x : List UInt8) (hx : x.length = 20) : Ids g (W.setCells g (i * 20) (bvs x)) (d.setIfInBounds i x) where
  at_ := fun k hk => by
    have hk' : k < d.size := by simpa using hk
    have e : (d.setIfInBounds i x)[k]! = if k = i then x else d[k]! := by
      rw [getElem!_pos (d.setIfInBounds i x) k hk, Array.getElem_setIfInBounds hk']
      by_cases e : i = k
      · subst e; simp
      · rw [if_neg e, if_neg (Ne.symm e), getElem!_pos d k hk']
    rw [e]
    by_cases e : k = i
    · subst e
      rw [if_pos rfl]
      exact World.rangeAt_setCells_same _ _ _ _ (by rw [bvs_length, hx]; exact h.thereAt k hi)
    · rw [if_neg e]
      refine World.rangeAt_setCells_apart (h.at_ k hk') _ _ _ ?_
      rw [bvs_length, bvs_length, hx, h.len k hk']
      omega
  free := fun j hj => by
    have := h.free j (by simpa using hj)
    exact ⟨World.isSome_setCells _ _ _ _ _ this.1, by rw [World.frozen?_setCells]; exact this.2⟩
  len := fun k hk => by
    have hk' : k < d.size := by simpa using hk
    rw [getElem!_pos (d.setIfInBounds i x) k hk, Array.getElem_setIfInBounds hk']
    split
    · exact hx
    · have := h.len k hk'; rwa [getElem!_pos d k hk'] at this
  dom := Nat.lt_of_lt_of_le h.dom (kp_setCells g (bvs x) (i * 20) W).size
theorem Ids.get {g : Nat} {W : World} {d d' : Array (List UInt8)} (h : Ids g W d) (hs : d'.size = d.size) (he : ∀ k, k < d.size → d'[k]! = d[k]!) : Ids g W d' :=
  ⟨fun i hi => by rw [he i (by omega)]; exact h.at_ i (by omega), by rw [hs]; exact h.free, fun i hi => by rw [he i (by omega)]; exact h.len i (by omega), h.dom⟩
theorem Ids.swap {g : Nat} {W : World} {d : Array (List UInt8)} (h : Ids g W d) (i j : Nat) (hi : i < d.size) (hj : j < d.size) :
    Ids g ((W.setCells g (i * 20) (bvs d[j]!)).setCells g (j * 20) (bvs d[i]!)) (swp d i j) := by
  have h1 := h.put i hi d[j]! (h.len j hj)
  have h2 := h1.put j (by simpa using hj) d[i]! (h.len i hi)
  exact h2
theorem ids_less (g n cap : Nat) (hcap : n ≤ cap) (W : World) (d : Array (List UInt8)) (i j : Nat) (h : Ids g W d) (hd : d.size = n) (hi : i < n) (hj : j < n) (hn : n < 256) :
    Calls Try.prog 81 #[.slice (some ⟨g, 0, none⟩) n cap, .int .i64 (i : Int), .int .i64 (j : Int)] W fun e w' => e = .returned (.bool (decide (Lib.compareBytes d[i]! d[j]! < 0))) ∧ Below W.heap.size W w' := by
  have f0 : (loadVar 23 ⟨g, i * 20, none⟩).run Try.prog W.drew = .ok (idv d[i]!) W.drew := h.drew.load i (by omega)
  have f1 : (loadVar 23 ⟨g, j * 20, none⟩).run Try.prog W.drew = .ok (idv d[j]!) W.drew := h.drew.load j (by omega)
  have kl := less_any d[i]! d[j]! W.drew (h.len i (by omega)) (h.len j (by omega))
  have HD := Lib.hid hd
  clear h hd
  go_enter Try.func81, Try.ntmps81
  go_wp2
  go_still_tail 8, (by kernel_rfl)
  refine wpStill_load_agg rfl 23 (.tmp 9) rfl _ rfl _ f0 ?_
  repeat still_step
  refine wpStill_load_agg rfl 23 (.tmp 13) rfl _ rfl _ f1 ?_
  repeat still_step
  refine wpStill_nil ?_
  change wpList _ _ _ _ _ W.drew
  go_wp2_with (go_at_call 13; (with_reducible refine kl.mono ?_); rintro e w' ⟨rfl, hb⟩)
  go_ret
  exact ⟨rfl, (Below.refl _ _).drew.trans hb⟩
theorem step_if {c : Prop} [Decidable c] {A B : Prop} (hc : c) (h : A) : if c then A else B := by rw [if_pos hc]; exact h
theorem wp_loadV {P : Program} {op : Oper} {a : Act} {w : World} {K : Act → World → Prop} {Q : Exit → Act → World → Prop} (ty : TypeId) (x : Operand) (ho : op.op = .load ty x)
    (ad : Addr) (hx : a.eval x = .pointer (some ad)) (v : Value) (hl : (loadVar ty ad).run P w = .ok v w) (h : K (a.put op.dst v) w) : op.wp P a w K Q := by
  unfold Oper.wp execOp
  simp only [ho, hx, Instr.loadAt, Instr.sureAddr, Sem.run_bind, Sem.run_pure, Result.andThen_ok, hl]
  exact h
theorem wp_storeV {P : Program} {op : Oper} {a : Act} {w w' : World} {K : Act → World → Prop} {Q : Exit → Act → World → Prop} (ty : TypeId) (x y : Operand) (ho : op.op = .store ty x y)
    (ad : Addr) (v : Value) (hx : a.eval x = .pointer (some ad)) (hy : a.eval y = v) (hl : (storeVar ty ad v).run P w = .ok () w') (h : K (a.put op.dst undef) w') : op.wp P a w K Q := by
  unfold Oper.wp execOp
  simp only [ho, hx, hy, Instr.storeAt, Instr.sureAddr, Sem.run_bind, Sem.run_pure, Result.andThen_ok, hl]
  exact h
theorem ready_load {P : Program} {md : Region.Mode} {ops : Array Oper} {Q : Exit → Act → World → Prop} {fuel : Nat} {listed : Array Bool} {a : Act} {w : World} {i : Nat} {o : Oper} {rs : List Nat} (ho : ops[i]? = some o) (hgd : o.guard = none)
    (ty : TypeId) (x : Operand) (hop : o.op = .load ty x) (ad : Addr) (hx : a.eval x = .pointer (some ad)) (v : Value) (hl : (loadVar ty ad).run P w = .ok v w) (hs : AllReady P md ops Q fuel listed a w rs)
    (h : wpAny P md ops Q fuel (listed.setIfInBounds i true) (a.put o.dst v) w) : AllReady P md ops Q fuel listed a w (i :: rs) :=
  AllReady.cons ho (fun K hK => step_if (by simp [Region.wanted, hgd]) (wp_loadV ty x hop ad hx v hl (hK _ _ h))) hs
theorem ready_store {P : Program} {md : Region.Mode} {ops : Array Oper} {Q : Exit → Act → World → Prop} {fuel : Nat} {listed : Array Bool} {a : Act} {w w' : World} {i : Nat} {o : Oper} {rs : List Nat} (ho : ops[i]? = some o) (hgd : o.guard = none)
    (ty : TypeId) (x y : Operand) (hop : o.op = .store ty x y) (ad : Addr) (v : Value) (hx : a.eval x = .pointer (some ad)) (hy : a.eval y = v) (hl : (storeVar ty ad v).run P w = .ok () w') (hs : AllReady P md ops Q fuel listed a w rs)
    (h : wpAny P md ops Q fuel (listed.setIfInBounds i true) (a.put o.dst undef) w') : AllReady P md ops Q fuel listed a w (i :: rs) :=
  AllReady.cons ho (fun K hK => step_if (by simp [Region.wanted, hgd]) (wp_storeV ty x y hop ad v hx hy hl (hK _ _ h))) hs
theorem ids_swap (g n cap : Nat) (hcap : n ≤ cap) (W : World) (d : Array (List UInt8)) (i j : Nat) (h : Ids g W d) (hd : d.size = n) (hi : i < n) (hj : j < n) (hn : n < 256) :
    Calls Try.prog 82 #[.slice (some ⟨g, 0, none⟩) n cap, .int .i64 (i : Int), .int .i64 (j : Int)] W fun e w' => e = .returned (.tuple #[]) ∧ Ids g w' (swp d i j) ∧ Kp (fun k => k = g) W w' := by
  have f0 : (loadVar 23 ⟨g, i * 20, none⟩).run Try.prog W.drew = .ok (idv d[i]!) W.drew := h.drew.load i (by omega)
  have f1 : (loadVar 23 ⟨g, j * 20, none⟩).run Try.prog W.drew = .ok (idv d[j]!) W.drew := h.drew.load j (by omega)
  have hsw := h.drew.swap i j (by omega) (by omega)
  have t0 : W.drew.there g (i * 20) (bvs d[j]!).toArray.size := by
    have := h.drew.thereAt i (by omega)
    simpa [h.len j (by omega)] using this
  have t1 : (W.drew.setCells g (i * 20) (bvs d[j]!)).there g (j * 20) (bvs d[i]!).toArray.size := by
    have h1 := (h.drew.put i (by omega) d[j]! (h.len j (by omega))).thereAt j (by simp; omega)
    simpa [h.len i (by omega)] using h1
  have zi := info23 d[i]! (h.len i (by omega))
  have zj := info23 d[j]! (h.len j (by omega))
  have kk := Kp.trans (Kp.trans (Kp.refl (fun k => k = g) W).drew (kp_setCells g (bvs d[j]!) (i * 20) W.drew)) (kp_setCells g (bvs d[i]!) (j * 20) _)
  have s0 := run_storeVar_mid (P := Try.prog) W.drew g (i * 20) 23 (bvs d[j]!).toArray t0 zj (one_bvs _)
  have s1 := run_storeVar_mid (P := Try.prog) (W.drew.setCells g (i * 20) (bvs d[j]!)) g (j * 20) 23 (bvs d[i]!).toArray t1 zi (one_bvs _)
  rw [List.toList_toArray] at s0 s1
  have SW := Lib.hid hsw
  have KK := Lib.hid kk
  have HD := Lib.hid hd
  clear h hd t0 t1 zi zj hsw kk
  have F0 := Lib.hid f0; have F1 := Lib.hid f1; have S0 := Lib.hid s0; have S1 := Lib.hid s1
  clear f0 f1 s0 s1
  go_enter Try.func82, Try.ntmps82
  go_wp2
  refine wp_region_any (by kernel_rfl) ?_
  change wpAny _ _ _ _ _ _ _ (World.drew _)
  apply wpAny_take (i := 0)
  case hi => (simp only [List.getElem?_toArray, List.getElem?_cons_succ, List.getElem?_cons_zero]; rfl)
  case hs => decide +kernel
  case hf => decide +kernel
  case hr => decide +kernel
  case hQ => exact fun _ _ _ h => h
  case hy => exact Or.inl ⟨by rfl, by intro w; go_simp; (try with_reducible rfl)⟩
  (try simp only [Act.put, List.setIfInBounds_toArray, List.set_cons_succ, List.set_cons_zero])
  apply wpAny_take (i := 1)
  case hi => (simp only [List.getElem?_toArray, List.getElem?_cons_succ, List.getElem?_cons_zero]; rfl)
  case hs => decide +kernel
  case hf => decide +kernel
  case hr => decide +kernel
  case hQ => exact fun _ _ _ h => h
  case hy => exact Or.inl ⟨by rfl, by intro w; go_simp; (try with_reducible rfl)⟩
  (try simp only [Act.put, List.setIfInBounds_toArray, List.set_cons_succ, List.set_cons_zero])
  apply wpAny_take (i := 2)
  case hi => (simp only [List.getElem?_toArray, List.getElem?_cons_succ, List.getElem?_cons_zero]; rfl)
  case hs => decide +kernel
  case hf => decide +kernel
  case hr => decide +kernel
  case hQ => exact fun _ _ _ h => h
  case hy => exact Or.inl ⟨by rfl, by intro w; go_simp; (try with_reducible rfl)⟩
  (try simp only [Act.put, List.setIfInBounds_toArray, List.set_cons_succ, List.set_cons_zero])
  apply wpAny_take (i := 3)
  case hi => (simp only [List.getElem?_toArray, List.getElem?_cons_succ, List.getElem?_cons_zero]; rfl)
  case hs => decide +kernel
  case hf => decide +kernel
  case hr => decide +kernel
  case hQ => exact fun _ _ _ h => h
  case hy => exact Or.inl ⟨by rfl, by intro w; go_simp; (try with_reducible rfl)⟩
  (try simp only [Act.put, List.setIfInBounds_toArray, List.set_cons_succ, List.set_cons_zero])
  apply wpAny_take (i := 4)
  case hi => (simp only [List.getElem?_toArray, List.getElem?_cons_succ, List.getElem?_cons_zero]; rfl)
  case hs => decide +kernel
  case hf => decide +kernel
  case hr => decide +kernel
  case hQ => exact fun _ _ _ h => h
  case hy => exact Or.inl ⟨by rfl, by intro w; go_simp; (try with_reducible rfl)⟩
  (try simp only [Act.put, List.setIfInBounds_toArray, List.set_cons_succ, List.set_cons_zero])
  apply wpAny_take (i := 5)
  case hi => (simp only [List.getElem?_toArray, List.getElem?_cons_succ, List.getElem?_cons_zero]; rfl)
  case hs => decide +kernel
  case hf => decide +kernel
  case hr => decide +kernel
  case hQ => exact fun _ _ _ h => h
  case hy => exact Or.inl ⟨by rfl, by intro w; go_simp; (try with_reducible rfl)⟩
  (try simp only [Act.put, List.setIfInBounds_toArray, List.set_cons_succ, List.set_cons_zero])
  apply wpAny_take (i := 6)
  case hi => (simp only [List.getElem?_toArray, List.getElem?_cons_succ, List.getElem?_cons_zero]; rfl)
  case hs => decide +kernel
  case hf => decide +kernel
  case hr => decide +kernel
  case hQ => exact fun _ _ _ h => h
  case hy => exact Or.inl ⟨by rfl, by intro w; go_simp; (try with_reducible rfl)⟩
  (try simp only [Act.put, List.setIfInBounds_toArray, List.set_cons_succ, List.set_cons_zero])
  apply wpAny_take (i := 8)
  case hi => (simp only [List.getElem?_toArray, List.getElem?_cons_succ, List.getElem?_cons_zero]; rfl)
  case hs => decide +kernel
  case hf => decide +kernel
  case hr => decide +kernel
  case hQ => exact fun _ _ _ h => h
  case hy => exact Or.inl ⟨by rfl, by intro w; go_simp; (try with_reducible rfl)⟩
  (try simp only [Act.put, List.setIfInBounds_toArray, List.set_cons_succ, List.set_cons_zero])
  apply wpAny_take (i := 9)
  case hi => (simp only [List.getElem?_toArray, List.getElem?_cons_succ, List.getElem?_cons_zero]; rfl)
  case hs => decide +kernel
  case hf => decide +kernel
  case hr => decide +kernel
  case hQ => exact fun _ _ _ h => h
  case hy => exact Or.inl ⟨by rfl, by intro w; go_simp; (try with_reducible rfl)⟩
  (try simp only [Act.put, List.setIfInBounds_toArray, List.set_cons_succ, List.set_cons_zero])
  apply wpAny_take (i := 10)
  case hi => (simp only [List.getElem?_toArray, List.getElem?_cons_succ, List.getElem?_cons_zero]; rfl)
  case hs => decide +kernel
  case hf => decide +kernel
  case hr => decide +kernel
  case hQ => exact fun _ _ _ h => h
  case hy => exact Or.inl ⟨by rfl, by intro w; go_simp; (try with_reducible rfl)⟩
  (try simp only [Act.put, List.setIfInBounds_toArray, List.set_cons_succ, List.set_cons_zero])
  refine wpAny_ready (rs := [7, 11]) (by kernel_rfl) (by simp) ?_
  apply ready_load (ty := 23) (x := .tmp 12) (ad := ⟨g, j * 20, none⟩) (v := idv d[j]!) (hl := F1.out)
  case ho => (simp only [List.getElem?_toArray, List.getElem?_cons_succ, List.getElem?_cons_zero]; rfl)
  case hgd => rfl
  case hop => rfl
  case hx => rfl
  case h =>
    refine wpAny_ready (rs := [11]) (by kernel_rfl) (by simp) ?_
    apply ready_load (ty := 23) (x := .tmp 16) (ad := ⟨g, i * 20, none⟩) (v := idv d[i]!) (hl := F0.out)
    case ho => (simp only [List.getElem?_toArray, List.getElem?_cons_succ, List.getElem?_cons_zero]; rfl)
    case hgd => rfl
    case hop => rfl
    case hx => rfl
    case hs => exact AllReady.nil
    apply wpAny_take (i := 12)
    case hi => (simp only [List.getElem?_toArray, List.getElem?_cons_succ, List.getElem?_cons_zero]; rfl)
    case hs => decide +kernel
    case hf => decide +kernel
    case hr => decide +kernel
    case hQ => exact fun _ _ _ h => h
    case hy => exact Or.inl ⟨by rfl, by intro w; go_simp; (try with_reducible rfl)⟩
    (try simp only [Act.put, List.setIfInBounds_toArray, List.set_cons_succ, List.set_cons_zero])
    refine wpAny_ready (rs := [13]) (by kernel_rfl) (by simp) ?_
    apply ready_store (ty := 23) (x := .tmp 18) (y := .tmp 13) (ad := ⟨g, i * 20, none⟩) (v := idv d[j]!) (hl := S0.out)
    case ho => (simp only [List.getElem?_toArray, List.getElem?_cons_succ, List.getElem?_cons_zero]; rfl)
    case hgd => rfl
    case hop => rfl
    case hx => rfl
    case hy => rfl
    case hs => exact AllReady.nil
    apply wpAny_take (i := 14)
    case hi => (simp only [List.getElem?_toArray, List.getElem?_cons_succ, List.getElem?_cons_zero]; rfl)
    case hs => decide +kernel
    case hf => decide +kernel
    case hr => decide +kernel
    case hQ => exact fun _ _ _ h => h
    case hy => exact Or.inl ⟨by rfl, by intro w; go_simp; (try with_reducible rfl)⟩
    (try simp only [Act.put, List.setIfInBounds_toArray, List.set_cons_succ, List.set_cons_zero])
    refine wpAny_ready (rs := [15]) (by kernel_rfl) (by simp) ?_
    apply ready_store (ty := 23) (x := .tmp 19) (y := .tmp 17) (ad := ⟨g, j * 20, none⟩) (v := idv d[i]!) (hl := S1.out)
    case ho => (simp only [List.getElem?_toArray, List.getElem?_cons_succ, List.getElem?_cons_zero]; rfl)
    case hgd => rfl
    case hop => rfl
    case hx => rfl
    case hy => rfl
    case hs => exact AllReady.nil
    refine wpAny_done (by kernel_rfl) ?_ _
    go_end0
    exact ⟨rfl, SW.out, KK.out⟩
  apply ready_load (ty := 23) (x := .tmp 16) (ad := ⟨g, i * 20, none⟩) (v := idv d[i]!) (hl := F0.out)
  case ho => (simp only [List.getElem?_toArray, List.getElem?_cons_succ, List.getElem?_cons_zero]; rfl)
  case hgd => rfl
  case hop => rfl
  case hx => rfl
  case hs => exact AllReady.nil
  refine wpAny_ready (rs := [7]) (by kernel_rfl) (by simp) ?_
  apply ready_load (ty := 23) (x := .tmp 12) (ad := ⟨g, j * 20, none⟩) (v := idv d[j]!) (hl := F1.out)
  case ho => (simp only [List.getElem?_toArray, List.getElem?_cons_succ, List.getElem?_cons_zero]; rfl)
  case hgd => rfl
  case hop => rfl
  case hx => rfl
  case hs => exact AllReady.nil
  apply wpAny_take (i := 12)
  case hi => (simp only [List.getElem?_toArray, List.getElem?_cons_succ, List.getElem?_cons_zero]; rfl)
  case hs => decide +kernel
  case hf => decide +kernel
  case hr => decide +kernel
  case hQ => exact fun _ _ _ h => h
  case hy => exact Or.inl ⟨by rfl, by intro w; go_simp; (try with_reducible rfl)⟩
  (try simp only [Act.put, List.setIfInBounds_toArray, List.set_cons_succ, List.set_cons_zero])
  refine wpAny_ready (rs := [13]) (by kernel_rfl) (by simp) ?_
  apply ready_store (ty := 23) (x := .tmp 18) (y := .tmp 13) (ad := ⟨g, i * 20, none⟩) (v := idv d[j]!) (hl := S0.out)
  case ho => (simp only [List.getElem?_toArray, List.getElem?_cons_succ, List.getElem?_cons_zero]; rfl)
  case hgd => rfl
  case hop => rfl
  case hx => rfl
  case hy => rfl
  case hs => exact AllReady.nil
  apply wpAny_take (i := 14)
  case hi => (simp only [List.getElem?_toArray, List.getElem?_cons_succ, List.getElem?_cons_zero]; rfl)
  case hs => decide +kernel
  case hf => decide +kernel
  case hr => decide +kernel
  case hQ => exact fun _ _ _ h => h
  case hy => exact Or.inl ⟨by rfl, by intro w; go_simp; (try with_reducible rfl)⟩
  (try simp only [Act.put, List.setIfInBounds_toArray, List.set_cons_succ, List.set_cons_zero])
  refine wpAny_ready (rs := [15]) (by kernel_rfl) (by simp) ?_
  apply ready_store (ty := 23) (x := .tmp 19) (y := .tmp 17) (ad := ⟨g, j * 20, none⟩) (v := idv d[i]!) (hl := S1.out)
  case ho => (simp only [List.getElem?_toArray, List.getElem?_cons_succ, List.getElem?_cons_zero]; rfl)
  case hgd => rfl
  case hop => rfl
  case hx => rfl
  case hy => rfl
  case hs => exact AllReady.nil
  refine wpAny_done (by kernel_rfl) ?_ _
  go_end0
  exact ⟨rfl, SW.out, KK.out⟩
end Go.Proofs.Ytjiiploleinobaa
