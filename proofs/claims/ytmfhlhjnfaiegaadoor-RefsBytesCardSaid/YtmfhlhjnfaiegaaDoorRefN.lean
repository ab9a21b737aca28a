/- refs.Name tells whether a ref may be so named. Conditions: the text is shorter than 2^30; the library's MaxLen holds some number. -/
import Derived.Test.YtmfhlhjnfaiegaaDoorRefQ
import Derived.Test.YtmfhlhjnfaiegaaDoorShelf
import Derived.Test.YtmfhlhjnfaiegaaDoorMemD
import Derived.Test.YtmfhlhjnfaiegaaDoorOidA
namespace Go.Proofs.YtmfhlhjnfaiegaaDoor
open Go.RowKit
set_option maxRecDepth 100000
set_option maxHeartbeats 4000000
set_option linter.unusedVariables false
/-- the library's variable holds some number -/
def GOk (w : World) : Prop := ∃ m, w.cell? ⟨0, 0, none⟩ = some (.int .i64 m)
theorem GOk.below {w w' : World} (h : GOk w) (hb : Below w.heap.size w w') : GOk w' := by
  obtain ⟨m, hm⟩ := h
  exact ⟨m, (hb.cell (World.block_lt_of_cell? w _ hm)).trans hm⟩
theorem pieces_sp (s : ByteArray) (c : UInt8) : (Lib.splitB ⟨#[c]⟩ 0 (Lib.countB s ⟨#[c]⟩) s).map (·.data.toList) = sp c s.data.toList := by
  rw [Lib.splitB_data]
  show Lib.splitK [c] 0 (Lib.count s.data.toList [c]) s.data.toList = _
  rw [Lib.count_one]
  exact splitK_sp c _ _ (Nat.le_refl _)
theorem sp_short {c : UInt8} : ∀ {l q : List UInt8}, q ∈ sp c l → q.length ≤ l.length
  | [], q, h => by simp [sp] at h; subst h; simp
  | y :: l, q, h => by
    unfold sp at h
    by_cases hy : y = c
    · rw [if_pos hy] at h
      rcases List.mem_cons.1 h with e | e
      · subst e; simp
      · have := sp_short e; simp; omega
    · rw [if_neg hy] at h
      have ih := fun q => @sp_short c l q
      have := sp_ne c l
      generalize sp c l = r at *
      match r with
      | [] => exact absurd rfl this
      | h0 :: t =>
        rcases List.mem_cons.1 h with e | e
        · subst e; have := ih h0 (by simp); simp; omega
        · have := ih q (by simp [e]); simp; omega
theorem or32 (c : UInt8) : bits .or .u8 (c.toNat : Int) 32 = (((c ||| 32).toNat : Nat) : Int) := by
  have := bits_or_nat .u8 8 (by decide) (fun n h0 h1 => IntWalk.u8_in n (by omega)) (a := c.toNat) (b := 32) c.toNat_lt (by decide)
  rw [show ((32 : Int)) = ((32 : Nat) : Int) from rfl, this, UInt8.toNat_or]
  rfl
theorem or32_le (c : UInt8) : (c ||| 32).toNat < 256 := (c ||| 32).toNat_lt
theorem okC_cls (c : UInt8) : (okC c = true ∧ ((97 ≤ (c ||| 32).toNat ∧ (c ||| 32).toNat ≤ 122) ∨ (48 ≤ c.toNat ∧ c.toNat ≤ 57 ∧ ((c ||| 32).toNat < 97 ∨ 122 < (c ||| 32).toNat)) ∨ (c.toNat = 46 ∧ (c ||| 32).toNat = 46) ∨ (c.toNat = 95 ∧ (c ||| 32).toNat = 127) ∨ (c.toNat = 45 ∧ (c ||| 32).toNat = 45))) ∨
    (okC c = false ∧ ((c ||| 32).toNat < 97 ∨ 122 < (c ||| 32).toNat) ∧ (c.toNat < 48 ∨ 57 < c.toNat) ∧ c.toNat ≠ 46 ∧ c.toNat ≠ 95 ∧ c.toNat ≠ 45) := by
  revert c
  refine u8_all ?_
  decide +kernel
theorem name_any (s : ByteArray) (hs : s.size ≤ 1073741824) (w : World) (hg : GOk w) : Calls Tryd.prog 13 #[.string s] w fun e w' => e = .returned (.bool (nameB s.data.toList)) ∧ Below w.heap.size w w' := by
  obtain ⟨mm, hm⟩ := hg
  have ksp := Tryd.strings_Split s ⟨#[47]⟩ mm w (by omega) hm (by decide)
  have hps := pieces_sp s 47
  have hsl : s.data.toList.length = s.size := by simp
  have hcount : Lib.countB s ⟨#[47]⟩ + 1 = (Lib.splitB ⟨#[47]⟩ 0 (Lib.countB s ⟨#[47]⟩) s).length := by
    have := congrArg List.length hps
    rw [List.length_map, count_len] at this
    rw [this]
    show Lib.count s.data.toList [47] + 1 = _
    rw [Lib.count_one]
  have hcle : Lib.countB s ⟨#[47]⟩ + 1 ≤ 1073741825 := by
    show Lib.count s.data.toList [47] + 1 ≤ _
    rw [Lib.count_one]
    have := List.count_le_length (a := (47 : UInt8)) (l := s.data.toList)
    omega
  obtain ⟨Ps, hP⟩ : ∃ Ps, Ps = Lib.splitB ⟨#[47]⟩ 0 (Lib.countB s ⟨#[47]⟩) s := ⟨_, rfl⟩
  obtain ⟨n, hn⟩ : ∃ n, n = Lib.countB s ⟨#[47]⟩ + 1 := ⟨_, rfl⟩
  rw [← hP, ← hn] at ksp
  rw [← hP] at hps hcount
  rw [← hn] at hcount hcle
  obtain ⟨W1, hW1⟩ : ∃ W1, W1 = w.alloc (.cells (Ps.map Value.string).toArray 9) := ⟨_, rfl⟩
  have hb1 : Below w.heap.size w W1 := by rw [hW1]; exact (Below.refl _ _).alloc (Nat.le_refl _) _
  have r1 : W1.heap[w.heap.size]? = some (.cells (Ps.map Value.string).toArray 9 (0, 0)) := by rw [hW1]; exact heap_alloc_new _ _
  rw [← hW1] at ksp
  have HB1 := Lib.hid hb1; have R1 := Lib.hid r1; have HPS := Lib.hid hps; have HN := Lib.hid hcount; have HSL := Lib.hid hsl
  clear hW1 hb1 r1 hps hcount hsl hP hn hm
  by_cases hlen : s.size ≤ 100
  · have hnb : nameB s.data.toList = (sp 47 s.data.toList).all okP := by unfold nameB; rw [HSL.out, decide_eq_true hlen, Bool.true_and]
    have HNB := Lib.hid hnb
    clear hnb
    go_enter Tryd.func13, Tryd.ntmps13
    go_wp2_with (go_at_call 29; (with_reducible refine ksp.mono ?_); rintro e w1 ⟨rfl, rfl⟩)
    go_loopw [13] (fun t13 wr => ∃ i : Nat, t13 = .int .i64 (i : Int) ∧ i ≤ n ∧ Hid (∀ j, j < i → okP ((Ps.getD j default).data.toList) = true) ∧ Below w1.heap.size w1 wr) (fun t13 _ => (n - intOf t13).toNat)
    case atStart => exact ⟨0, rfl, by omega, Lib.hid (fun j h => by omega), Below.refl _ _⟩
    case round =>
      obtain ⟨i, rfl, hi, hT, hbw⟩ := hrel
      by_cases hin : i < n
      · have hil : i < Ps.length := by rw [← HN.out]; exact hin
        obtain ⟨p, hp⟩ : ∃ p, p = Ps.getD i default := ⟨_, rfl⟩
        have hc : wr.cell? ⟨w.heap.size, i, none⟩ = some (.string p) := by
          rw [cell_of_row _ _ _ _ _ _ ((hbw.block _ (Array.getElem?_eq_some_iff.1 R1.out).1).trans R1.out), hp]
          simp [hil]
        have hpm : p.data.toList ∈ sp 47 s.data.toList := by
          rw [← HPS.out, hp]
          refine List.mem_map.2 ⟨_, ?_, rfl⟩
          rw [List.getD_eq_getElem?_getD, List.getElem?_eq_getElem hil]
          exact List.getElem_mem hil
        have hps : p.size ≤ 1073741824 := by
          have : ∀ q ∈ sp 47 s.data.toList, q.length ≤ s.data.toList.length := fun q hq => sp_short hq
          have := this _ hpm
          rw [HSL.out] at this
          have e : p.data.toList.length = p.size := by simp
          omega
        have bad : okP p.data.toList = false → nameB s.data.toList = false := fun h => by
          rw [HNB.out]
          cases hq : (sp 47 s.data.toList).all okP with
          | false => rfl
          | true => rw [List.all_eq_true.1 hq _ hpm] at h; cases h
        have htl : p.toList = p.data.toList := Lib.toList_data p
        have HP := Lib.hid hp; have HTL := Lib.hid htl; have BAD := Lib.hid bad; have HB := Lib.hid (HB1.out.trans (hbw.mono HB1.out.size))
        clear hp hpm bad htl hil
        by_cases hw : okW p.data.toList = true
        · have hw' := hw
          unfold okW at hw'
          simp only [Bool.and_eq_true, Bool.not_eq_true', beq_eq_false_iff_ne, ne_eq] at hw'
          obtain ⟨⟨n1, n2⟩, n3⟩ := hw'
          rw [← HTL.out] at n1 n2 n3
          have f1 : p.toList.isEmpty = false := by cases h : p.toList with
            | nil => exact absurd h n1
            | cons x t => rfl
          have f2 : (p.toList == [46]) = false := beq_eq_false_iff_ne.2 n2
          have f3 : (p.toList == [46, 46]) = false := beq_eq_false_iff_ne.2 n3
          have HW := Lib.hid hw
          clear hw
          go_upto_block 2 with fail
          clear f1 f2 f3 n1 n2 n3 hc
          go_wp2_with fail
          go_loopw [29] (fun t29 wq => ∃ k : Nat, t29 = .int .i64 (k : Int) ∧ k ≤ p.size ∧ Hid (∀ c ∈ p.data.toList.take k, okC c = true) ∧ Below w1.heap.size w1 wq) (fun t29 _ => (p.size - intOf t29).toNat)
          case atStart => exact ⟨0, rfl, by omega, Lib.hid (fun c hc => by simp at hc), hbw⟩
          case round =>
            clear hbw HB
            obtain ⟨k, rfl, hk, hK, hbw⟩ := hrel
            have HB := Lib.hid (HB1.out.trans (hbw.mono HB1.out.size))
            by_cases hks : k < p.size
            · obtain ⟨e1, e2⟩ := str_at p k hks
              obtain ⟨c, hc⟩ : ∃ c, c = p[k] := ⟨_, rfl⟩
              rw [← hc] at e1 e2
              have hix : ∀ W, (Instr.index 9 (.string p) (.int .i64 (k : Int))).run Tryd.prog W = .ok (.int .u8 (c.toNat : Int)) W := fun W => by
                rw [hc, run_index_string (P := Tryd.prog) (w := W) (t := 9) (s := p) (k := .i64) (i := (k : Int)) (h := Tryd.underlying9), dif_pos (by omega)]; rfl
              have hor := or32 c
              have hol := or32_le c
              have hcl := c.toNat_lt
              have hcls := okC_cls c
              obtain ⟨o, ho⟩ : ∃ o : Nat, o = (c ||| 32).toNat := ⟨_, rfl⟩
              rw [← ho] at hor hcls hol
              have hbadc : okC c = false → nameB s.data.toList = false := fun h => BAD.out (by
                unfold okP
                cases hq : p.data.toList.all okC with
                | false => rw [Bool.and_false]
                | true => rw [List.all_eq_true.1 hq _ e2] at h; cases h)
              have hK2 : okC c = true → ∀ x ∈ p.data.toList.take (k + 1), okC x = true := fun h x hx => by
                rw [e1] at hx
                rcases List.mem_append.1 hx with hx | hx
                · exact hK.out x hx
                · simp at hx; subst hx; exact h
              have HBC := Lib.hid hbadc; have HK2 := Lib.hid hK2
              clear e1 e2 hc ho hbadc hK2 hK
              obtain ⟨x, hx⟩ : ∃ x : Nat, x = c.toNat := ⟨_, rfl⟩
              rw [← hx] at hix hor hcl hcls
              clear hx
              rcases hcls with ⟨hok, h⟩ | ⟨hok, h⟩
              · have HOK := Lib.hid (HK2.out hok)
                clear HK2 HBC hok
                rcases h with ⟨h1, h2⟩ | ⟨h1, h2, h3⟩ | ⟨h1, h2⟩ | ⟨h1, h2⟩ | ⟨h1, h2⟩
                · go_wp2
                  go_roundw
                  case rel => exact ⟨k + 1, by simp, by omega, HOK, hbw⟩
                  case measure => simp only [intOf]; omega
                · rcases h3 with h3 | h3
                  all_goals
                    go_wp2
                    go_roundw
                    case rel => exact ⟨k + 1, by simp, by omega, HOK, hbw⟩
                    case measure => simp only [intOf]; omega
                all_goals
                  subst h1 h2
                  go_wp2
                  go_roundw
                  case rel => exact ⟨k + 1, by simp, by omega, HOK, hbw⟩
                  case measure => simp only [intOf]; omega
              · have HNO := Lib.hid (HBC.out hok)
                obtain ⟨h1, h2, h3, h4, h5⟩ := h
                have g3 : ((x : Int) != 46) = true := bne_iff_ne.2 (by omega)
                have g4 : ((x : Int) != 95) = true := bne_iff_ne.2 (by omega)
                have g5 : ((x : Int) != 45) = true := bne_iff_ne.2 (by omega)
                have i3 : ¬ (x : Int) = 46 := by omega
                have i4 : ¬ (x : Int) = 95 := by omega
                have i5 : ¬ (x : Int) = 45 := by omega
                clear HK2 HBC hok h3 h4 h5
                rcases h1 with h1 | h1 <;> rcases h2 with h2 | h2
                all_goals
                  go_wp2
                  go_ret
                  exact ⟨by rw [HNO.out]; rfl, HB.out⟩
            · have hok : okP p.data.toList = true := by
                unfold okP
                rw [HW.out, Bool.true_and, List.all_eq_true]
                intro c hc
                refine hK.out c ?_
                rwa [List.take_of_length_le (by simp; omega)]
              have HOK := Lib.hid hok
              have hd : decide ((k : Int) < (p.size : Int)) = false := decide_eq_false (by omega)
              clear hok hK
              go_wp2
              go_roundw
              case rel => exact ⟨i + 1, by simp, by omega, Lib.hid (fun j hj => by
                by_cases e : j = i
                · rw [e, ← HP.out]; exact HOK.out
                · exact hT.out j (by omega)), hbw⟩
              case measure => simp only [intOf]; omega
        · have hq : okP p.data.toList = false := by
            unfold okP
            rw [show okW p.data.toList = false by simpa using hw]; rfl
          have HNO := Lib.hid (BAD.out hq)
          have hcs : p.toList = [] ∨ p.toList = [46] ∨ p.toList = [46, 46] := by
            rw [HTL.out]
            unfold okW at hw
            by_cases a : p.data.toList = []
            · exact .inl a
            · by_cases b : p.data.toList = [46]
              · exact .inr (.inl b)
              · by_cases c : p.data.toList = [46, 46]
                · exact .inr (.inr c)
                · exact absurd (by rw [beq_eq_false_iff_ne.2 a, beq_eq_false_iff_ne.2 b, beq_eq_false_iff_ne.2 c]; rfl) hw
          clear hq hw HTL
          rcases hcs with e | e | e
          all_goals
            go_wp2
            go_ret
            exact ⟨by rw [HNO.out]; rfl, HB.out⟩
      · obtain rfl : i = n := by omega
        have hyes : nameB s.data.toList = true := by
          rw [HNB.out, ← HPS.out, List.all_eq_true]
          intro q hq
          obtain ⟨x, hx, rfl⟩ := List.mem_map.1 hq
          obtain ⟨j, hj, rfl⟩ := List.mem_iff_getElem.1 hx
          have := hT.out j (by rw [HN.out]; exact hj)
          rwa [List.getD_eq_getElem?_getD, List.getElem?_eq_getElem hj] at this
        have HY := Lib.hid hyes
        clear hyes hT
        go_wp2
        go_ret
        exact ⟨by rw [HY.out]; rfl, HB1.out.trans (hbw.mono HB1.out.size)⟩
  · have hnb : nameB s.data.toList = false := by unfold nameB; rw [HSL.out, decide_eq_false hlen, Bool.false_and]
    have HNB := Lib.hid hnb
    clear hnb ksp
    go_enter Tryd.func13, Tryd.ntmps13
    go_wp2
    go_ret
    exact ⟨by rw [HNB.out]; rfl, Below.refl _ _⟩
end Go.Proofs.YtmfhlhjnfaiegaaDoor
