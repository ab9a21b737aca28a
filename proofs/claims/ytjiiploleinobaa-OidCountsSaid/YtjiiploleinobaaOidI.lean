/- slices.Compact and Clip of two equal names; Sort of them. No condition. -/
import Derived.Test.YtjiiploleinobaaOidH
import Derived.Test.YtjiiploleinobaaOidEq
namespace Go.Proofs.Ytjiiploleinobaa
open Go.RowKit
set_option maxRecDepth 100000
set_option maxHeartbeats 4000000
set_option linter.unusedVariables false
theorem run_clear23 (g o c : Nat) (cur : Array Value) (w : World) (hg : w.heap[g]? = some (.cells cur 23 (0, 0))) (hl : o + 20 ≤ cur.size) :
    ∃ w', (Builtin.clear_ #[36] 0 #[.slice (some ⟨g, o, none⟩) 1 c]).run Try.prog w = .ok (.tuple #[]) w' ∧ Kp (fun k => k = g) w w' := by
  have hv : ∀ w : World, (zeroValue 23).run Try.prog w = .ok (idv zs20) w := fun w => by kernel_rfl
  have hzc : (Builtin.zeroCells (idv zs20).cells 1).toList = bvs zs20 := by kernel_rfl
  have hst := run_storeCells_at Try.prog g o 23 (bvs zs20) 0 cur w hg (by rw [bvs_length, zs20_len]; omega) (bvs_one _)
  refine ⟨w.setRow g (cur.toList.take (o + 0) ++ bvs zs20 ++ cur.toList.drop (o + 0 + (bvs zs20).length)).toArray, ?_, ?_⟩
  · simp [Builtin.clear_, run_underlying Try.underlying36, hv, hzc, hst]
  · exact ⟨rfl, rfl, rfl, by simp, fun k _ hk => setRow_other w g k _ hk⟩
theorem compact_two (id : List UInt8) (hid : id.length = 20) (g off cap : Nat) (cur : Array Value) (w : World) (hcap : 2 ≤ cap) (hg : w.heap[g]? = some (.cells cur 23 (0, 0))) (hl : off + 40 ≤ cur.size)
    (h0 : Sl w (some ⟨g, off, none⟩) (bvs id)) (h1 : Sl w (some ⟨g, off + 20, none⟩) (bvs id)) :
    Calls Try.prog 33 #[.slice (some ⟨g, off, none⟩) 2 cap] w fun e w' => e = .returned (.slice (some ⟨g, off, none⟩) 1 cap) ∧ Kp (fun k => k = g) w w' := by
  have f0 : (loadVar 23 ⟨g, off, none⟩).run Try.prog w.drew = .ok (idv id) w.drew := load_id id hid _ _ (fun j v h => h0 j v h)
  have f1 : (loadVar 23 ⟨g, off + 20, none⟩).run Try.prog w.drew = .ok (idv id) w.drew := load_id id hid _ _ (fun j v h => h1 j v h)
  have kc := run_clear23 g (off + 20) (cap - 1) cur w.drew hg (by omega)
  have hw0 : IntKind.i64.wrap 0 = 0 := rfl
  have heq := eqlIn_run 23 Try.underlying23 id id hid hid w.drew
  rw [decide_eq_true rfl] at heq
  have HL := Lib.hid hl
  clear hl
  go_enter Try.func33, Try.ntmps33
  go_wp2
  go_loopw [3] (fun t3 wr => t3 = .int .i64 1 ∧ wr = w) (fun t3 _ => 2 - (intOf t3).toNat)
  case atStart => exact ⟨rfl, rfl⟩
  case round =>
    obtain ⟨rfl, rfl⟩ := hrel
    go_wp2
    refine wp_region_still_tail 9 (by kernel_rfl) (by kernel_rfl) ?_
    simp only [List.take_succ_cons, List.take_zero, List.drop_succ_cons, List.drop_zero]
    repeat still_step
    refine wpStill_load_agg rfl 23 (.tmp 18) rfl _ rfl _ f1 ?_
    repeat still_step
    refine wpStill_load_agg rfl 23 (.tmp 23) rfl _ rfl _ f0 ?_
    repeat still_step
    refine wpStill_nil ?_
    change wpList _ _ _ _ _ wr.drew
    obtain ⟨w2, hk, hkp⟩ := kc
    go_wp2
    go_loopw [3, 5] (fun t3 t5 wq => t3 = .int .i64 1 ∧ t5 = .int .i64 1 ∧ wq = wr.drew) (fun _ t5 _ => 2 - (intOf t5).toNat)
    case atStart => exact ⟨rfl, rfl, rfl⟩
    case round =>
      obtain ⟨rfl, rfl, rfl⟩ := hrel
      go_wp2
      go_ret
      exact ⟨rfl, ((Kp.refl _ _).drew).trans hkp⟩
theorem clip32 (A : Option Addr) (n c : Nat) (h : n ≤ c) (w : World) : Calls Try.prog 32 #[.slice A n c] w fun e w' => e = .returned (.slice A n n) ∧ w = w' := by
  have hz : ∀ w : World, ∃ s, (sizeOf 23).run Try.prog w = .ok s w := fun w => ⟨20, by kernel_rfl⟩
  have h1 := slice_clip Try.underlying36 hz A n c h
  go_enter Try.func32, Try.ntmps32
  go_wp2
  go_ret
  exact ⟨rfl, rfl⟩
theorem sort_two (id : List UInt8) (hid : id.length = 20) (A : Addr) (c : Nat) (w : World) (hA : Sl w (some A) (bvs id ++ bvs id)) :
    Calls Try.prog 14 #[.slice (some A) 2 c] w fun e w' => ∃ A' c', e = .returned (.slice A' 1 c') ∧ Below w.heap.size w w' := by
  have kc := clone2_any A c (bvs id ++ bvs id) w (by simp [hid]) (fun u hu => by
    rcases List.mem_append.1 hu with hu | hu
    · exact bvs_one id u hu
    · exact bvs_one id u hu) hA
  have hlen : (bvs id).length = 20 := by rw [bvs_length, hid]
  go_enter Try.func14, Try.ntmps14
  go_wp2_with (first
    | (go_at_call 30; (with_reducible refine kc.mono ?_); rintro e w2 ⟨v2, rfl, hw2, hb2⟩
       obtain ⟨g, off, cap, rfl, hg1, hg2, hcp, hcm⟩ := Win.form hw2 (by decide)
       have hsl := Win.at_ hw2
       have s0 : Sl w2 (some ⟨g, off, none⟩) (bvs id) := fun j v hj => hsl j v (by rw [List.getElem?_append_left (List.getElem?_eq_some_iff.1 hj).1]; exact hj)
       have s1 : Sl w2 (some ⟨g, off + 20, none⟩) (bvs id) := by
         have := Sl.drop hsl 20
         rwa [List.drop_append_of_le_length (by omega), List.drop_eq_nil_of_le (by omega), List.nil_append] at this
       have ks := sort_S (some ⟨g, off, none⟩) cap w2 (fun W hW => less81 id hid g off cap W hcp (s0.below hW) (s1.below hW)))
    | (go_at_call 31; (with_reducible refine ks.mono ?_); rintro e w3 ⟨rfl, hb3⟩
       obtain ⟨hl3, h3⟩ := Win.below hw2 hb3
       obtain ⟨cur, hcur, hsz⟩ : ∃ cur : Array Value, w3.heap[g]? = some (.cells cur 23 (0, 0)) ∧ off + 40 ≤ cur.size := by
         rcases h3 with ⟨e, _⟩ | ⟨g', off', cap', cur, e, _, hg, _, _, hcs, _⟩
         · cases e
         · injection e with e1 e2 e3
           injection e1 with e1
           injection e1 with e1 e4
           subst e1 e4
           exact ⟨cur, hg, by omega⟩
       have kk := compact_two id hid g off cap cur w3 hcp hcur hsz (s0.below hb3) (s1.below hb3))
    | (go_at_call 33; (with_reducible refine kk.mono ?_); rintro e w4 ⟨rfl, hb4⟩
       have kl := clip32 (some ⟨g, off, none⟩) 1 cap (by omega) w4)
    | (go_at_call 32; (with_reducible refine kl.mono ?_); rintro e w5 ⟨rfl, rfl⟩))
  go_ret
  exact ⟨_, _, rfl, (hb2.trans (hb3.mono hb2.size)).trans (hb4.toBelow (Nat.le_trans hb2.size hb3.size) (fun k hk e => by omega))⟩
end Go.Proofs.Ytjiiploleinobaa
