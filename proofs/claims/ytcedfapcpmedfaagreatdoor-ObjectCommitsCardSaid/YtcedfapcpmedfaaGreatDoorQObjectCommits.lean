/- ObjectCommits: any commit, any tag as bytes, which tell them again; a commit's date. Conditions: what the library's variables hold; twenty bytes each. -/
import Derived.Test.YtcedfapcpmedfaaGreatDoorKi
import Derived.Test.YtcedfapcpmedfaaGreatDoorKh
namespace Go.Proofs.YtcedfapcpmedfaaGreatDoor
section
open Go.RowKit
set_option maxRecDepth 100000
set_option maxHeartbeats 4000000
set_option linter.unusedVariables false
/-- the two arguments' boxes -/
theorem boxes_ct (c : Cm) (h20 : c.tree.length = 20) (v : Value) (t : Tg) (t20 : t.object.length = 20) (w : World) :
    ∃ W0, W0 = (w.alloc (.cells (ccell (ck c v)).toArray 45)).alloc (.cells (tcell t).toArray 47) ∧ Below w.heap.size w W0 ∧ ∀ w', Below W0.heap.size W0 w' →
      (w'.cell? ⟨w.heap.size, 20, none⟩ = some v ∧ w'.cell? ⟨w.heap.size, 21, none⟩ = some (.string (bstr c.author)) ∧ w'.cell? ⟨w.heap.size, 22, none⟩ = some (.string (bstr c.committer)) ∧ w'.cell? ⟨w.heap.size, 23, none⟩ = some (.string (bstr c.message)) ∧
        w'.cell? ⟨w.heap.size + 1, 21, none⟩ = some (.string (bstr t.name)) ∧ w'.cell? ⟨w.heap.size + 1, 22, none⟩ = some (.string (bstr t.tagger)) ∧ w'.cell? ⟨w.heap.size + 1, 23, none⟩ = some (.string (bstr t.message))) ∧
      (loadVar 45 ⟨w.heap.size, 0, none⟩).run Tryz.prog w' = .ok (cv (ck c v)) w' ∧ (loadVar 47 ⟨w.heap.size + 1, 0, none⟩).run Tryz.prog w' = .ok (tv t) w' := by
  obtain ⟨w0, hw0⟩ : ∃ w0, w0 = w.alloc (.cells (ccell (ck c v)).toArray 45) := ⟨_, rfl⟩
  rw [← hw0]
  have z0 : w0.heap.size = w.heap.size + 1 := by rw [hw0]; simp
  have b0 : Below w.heap.size w w0 := by rw [hw0]; exact (Below.refl _ _).alloc (Nat.le_refl _) _
  have b1 : Below w0.heap.size w0 (w0.alloc (.cells (tcell t).toArray 47)) := (Below.refl _ _).alloc (Nat.le_refl _) _
  have s0 : Sl w0 (some ⟨w.heap.size, 0, none⟩) (ccell (ck c v)) := by
    rw [hw0]
    exact Sl.of_block (heap_alloc_new _ _) (fun j v hj => by simpa using hj)
  have s1 : Sl (w0.alloc (.cells (tcell t).toArray 47)) (some ⟨w.heap.size + 1, 0, none⟩) (tcell t) := by
    rw [← z0]
    exact Sl.of_block (heap_alloc_new _ _) (fun j v hj => by simpa using hj)
  refine ⟨_, rfl, b0.trans (b1.mono b0.size), fun w' h => ?_⟩
  have S0 := (s0.below b1).below h
  have S1 := s1.below h
  obtain ⟨q1, q2, q3, q4⟩ := ccell_at (k := ck c v) h20
  obtain ⟨p1, p2, p3, p4⟩ := tcell_at t20
  have a1 := ck_at S0 q1; have a2 := ck_at S0 q2; have a3 := ck_at S0 q3; have a4 := ck_at S0 q4
  have d2 := tg_at S1 p2; have d3 := tg_at S1 p3; have d4 := tg_at S1 p4
  rw [add_plain, Nat.zero_add] at a1 a2 a3 a4 d2 d3 d4
  exact ⟨⟨a1, a2, a3, a4, d2, d3, d4⟩, load_ck h20 S0, load_tg t20 S1⟩
theorem commits_pass (c : Cm) (h20 : c.tree.length = 20) (A : Option Addr) (cap : Nat) (t : Tg) (t20 : t.object.length = 20) (bn : c.parents.length ≤ 9223372036854775807) (b1 : c.author.length ≤ 9223372036854775807) (b2 : c.committer.length ≤ 9223372036854775807) (b3 : c.message.length ≤ 9223372036854775807) (b4 : t.name.length ≤ 9223372036854775807) (b5 : t.tagger.length ≤ 9223372036854775807) (b6 : t.message.length ≤ 9223372036854775807)
    (hl : 20 < c.parents.length ∨ 300 < c.author.length ∨ 300 < c.committer.length ∨ 3000 < c.message.length ∨ 300 < t.name.length ∨ 300 < t.tagger.length ∨ 3000 < t.message.length) (w : World) (hg : Gb w) :
    Calls Tryz.prog 5 #[cv (ck c (.slice A c.parents.length cap)), tv t] w fun e w' => e = .returned (.bool true) ∧ Below w.heap.size w w' := by
  obtain ⟨W0, hW0, hb0, hk⟩ := boxes_ct c h20 (.slice A c.parents.length cap) t t20 w
  have kk := known_any W0 (hg.below hb0)
  obtain ⟨k, hk0⟩ : ∃ k, k = ck c (.slice A c.parents.length cap) := ⟨_, rfl⟩
  rw [← hk0] at hW0 hk ⊢
  obtain ⟨n, hn⟩ : ∃ n, n = c.parents.length := ⟨_, rfl⟩
  obtain ⟨s1, hs1⟩ : ∃ s1, s1 = c.author := ⟨_, rfl⟩
  obtain ⟨s2, hs2⟩ : ∃ s2, s2 = c.committer := ⟨_, rfl⟩
  obtain ⟨s3, hs3⟩ : ∃ s3, s3 = c.message := ⟨_, rfl⟩
  obtain ⟨s4, hs4⟩ : ∃ s4, s4 = t.name := ⟨_, rfl⟩
  obtain ⟨s5, hs5⟩ : ∃ s5, s5 = t.tagger := ⟨_, rfl⟩
  obtain ⟨s6, hs6⟩ : ∃ s6, s6 = t.message := ⟨_, rfl⟩
  rw [← hn, ← hs1, ← hs2, ← hs3, ← hs4, ← hs5, ← hs6] at hk
  rw [← hn] at bn
  rw [← hs1] at b1
  rw [← hs2] at b2
  rw [← hs3] at b3
  rw [← hs4] at b4
  rw [← hs5] at b5
  rw [← hs6] at b6
  rw [← hn, ← hs1, ← hs2, ← hs3, ← hs4, ← hs5, ← hs6] at hl
  have z1 := bstr_size s1; have z2 := bstr_size s2; have z3 := bstr_size s3; have z4 := bstr_size s4; have z5 := bstr_size s5; have z6 := bstr_size s6
  have HK := Lib.hid hk; have HW0 := Lib.hid hW0; have HB0 := Lib.hid hb0
  clear hg hk hW0 hb0 hn hs1 hs2 hs3 hs4 hs5 hs6 hk0
  have cases7 : 20 < n ∨ (¬ 20 < n ∧ 300 < s1.length) ∨ (¬ 20 < n ∧ ¬ 300 < s1.length ∧ 300 < s2.length) ∨ (¬ 20 < n ∧ ¬ 300 < s1.length ∧ ¬ 300 < s2.length ∧ 3000 < s3.length) ∨ (¬ 20 < n ∧ ¬ 300 < s1.length ∧ ¬ 300 < s2.length ∧ ¬ 3000 < s3.length ∧ 300 < s4.length) ∨
      (¬ 20 < n ∧ ¬ 300 < s1.length ∧ ¬ 300 < s2.length ∧ ¬ 3000 < s3.length ∧ ¬ 300 < s4.length ∧ 300 < s5.length) ∨ (¬ 20 < n ∧ ¬ 300 < s1.length ∧ ¬ 300 < s2.length ∧ ¬ 3000 < s3.length ∧ ¬ 300 < s4.length ∧ ¬ 300 < s5.length ∧ 3000 < s6.length) := by omega
  clear hl
  rcases cases7 with h1 | ⟨h1, h2⟩ | ⟨h1, h2, h3⟩ | ⟨h1, h2, h3, h4⟩ | ⟨h1, h2, h3, h4, h5⟩ | ⟨h1, h2, h3, h4, h5, h6⟩ | ⟨h1, h2, h3, h4, h5, h6, h7⟩
  all_goals
    go_enter Tryz.func5, Tryz.ntmps5
    go_upto_region 1 with fail
    rw [← HW0.out]
    go_wp2_with (go_at_call 10; (with_reducible refine kk.mono ?_); rintro e w1 ⟨rfl, hb1⟩
                 obtain ⟨⟨c1, c2, c3, c4, d2, d3, d4⟩, _, _⟩ := HK.out w1 hb1)
    go_ret
    exact ⟨rfl, HB0.out.trans (hb1.mono HB0.out.size)⟩
/-- a still step of a drawn region: what the class says -/
theorem cmB_len (c : Cm) (h20 : c.tree.length = 20) (hp : All20 c.parents) (hn : c.parents.length ≤ 20) (h1 : c.author.length ≤ 300) (h2 : c.committer.length ≤ 300) (h3 : c.message.length ≤ 3000) : (cmB c).length ≤ 12000 := by
  have hsz := parB_size c.parents hp
  have hx := hexs_len c.tree
  rw [cmB_eq, List.length_append, List.length_append, hsz]
  simp only [cmH, cmE, List.length_append, List.length_cons, List.length_nil, wTree, wAuthor, wCommitter, hx]
  omega
theorem tgB_len (t : Tg) (h20 : t.object.length = 20) (h1 : t.name.length ≤ 300) (h2 : t.tagger.length ≤ 300) (h3 : t.message.length ≤ 3000) : (tgB t).length ≤ 12000 := by
  have hx := hexs_len t.object
  have hw := word_len t.kind
  simp only [tgB, List.length_append, List.length_cons, List.length_nil, wObject, wType, wTag, wTagger, hx]
  omega
theorem commits_law (c : Cm) (h20 : c.tree.length = 20) (hp : All20 c.parents) (A : Option Addr) (cap : Nat) (hA0 : A = none → cap = 0) (t : Tg) (t20 : t.object.length = 20) (hn : c.parents.length ≤ 20) (l1 : c.author.length ≤ 300) (l2 : c.committer.length ≤ 300) (l3 : c.message.length ≤ 3000) (l4 : t.name.length ≤ 300) (l5 : t.tagger.length ≤ 300) (l6 : t.message.length ≤ 3000) (w : World) (hg : Gb w) (hA : Sl w A (idc c.parents)) :
    Calls Tryz.prog 5 #[cv (ck c (.slice A c.parents.length cap)), tv t] w fun e w' => e = .returned (.bool true) ∧ Below w.heap.size w w' := by
  obtain ⟨W0, hW0, hb0, hk⟩ := boxes_ct c h20 (.slice A c.parents.length cap) t t20 w
  have kk := known_any W0 (hg.below hb0)
  have HA := Lib.hid (hA.below hb0)
  have HG := Lib.hid (hg.below hb0)
  obtain ⟨k, hk0⟩ : ∃ k, k = ck c (.slice A c.parents.length cap) := ⟨_, rfl⟩
  have k20 : k.tree.length = 20 := by rw [hk0]; exact h20
  have kcm : k.committer = c.committer := by rw [hk0]
  obtain ⟨a, ha⟩ : ∃ a, a = (encC c).1 := ⟨_, rfl⟩
  obtain ⟨ea, hea⟩ : ∃ ea, ea = (encC c).2 := ⟨_, rfl⟩
  obtain ⟨x, hx⟩ : ∃ x, x = (encT t).1 := ⟨_, rfl⟩
  obtain ⟨ex, hex⟩ : ∃ ex, ex = (encT t).2 := ⟨_, rfl⟩
  have ke : ∀ w', Below W0.heap.size W0 w' → Calls Tryz.prog 23 #[cv k] w' (OutB a ea w') := fun w' h => by
    rw [hk0, ha, hea]; exact encC_any c h20 hp (by omega) (by omega) (by omega) (by omega) A cap hA0 w' (HA.out.below h)
  have kc : ∀ w', Below W0.heap.size W0 w' → Calls Tryz.prog 25 #[cv k] w' fun e w'' => ∃ B n, e = .returned (cv (ck c (.slice B c.parents.length n))) ∧ Sl w'' B (idc c.parents) ∧ Below w'.heap.size w' w'' := fun w' h => by
    rw [hk0]; exact commit_any c h20 hp (by omega) A cap w' (HA.out.below h)
  have ker : ∀ B n w', Sl w' B (idc c.parents) → Calls Tryz.prog 24 #[cv (ck c (.slice B c.parents.length n))] w' (OutB a ea w') := fun B n w' h => by
    rw [ha, hea]; exact encCR_any c h20 hp (by omega) (by omega) (by omega) (by omega) B n w' h
  have kt : ∀ w', Calls Tryz.prog 26 #[tv t] w' (OutB x ex w') := fun w' => by
    rw [hx, hex]; exact encT_any t t20 (by omega) (by omega) (by omega) w'
  have ktr : ∀ w', Calls Tryz.prog 27 #[tv t] w' (OutB x ex w') := fun w' => by
    rw [hx, hex]; exact encTR_any t t20 (by omega) (by omega) (by omega) w'
  have ktt := fun w' => tag_any t t20 w'
  have kd : ∀ w', Below W0.heap.size W0 w' → Calls Tryz.prog 29 #[cv k] w' fun e w'' => e = .returned (.int .i64 (dateI c.committer : Nat)) ∧ Below w'.heap.size w' w'' := fun w' h => by
    have := date_any k k20 (by rw [kcm]; omega) w' (HG.out.below h)
    rwa [kcm] at this
  have kdr : ∀ v w', Calls Tryz.prog 30 #[cv (ck c v)] w' fun e w'' => e = .returned (.int .i64 (dateI c.committer : Nat)) ∧ Below w'.heap.size w' w'' := fun v w' => dateR_any (ck c v) h20 (by show c.committer.length ≤ 1000000; omega) w'
  have kdc : ea = 0 → ∀ A' c' w', Below W0.heap.size W0 w' → Bs w' A' a → Calls Tryz.prog 31 #[.slice A' a.length c'] w' (OutC c 0 w') := fun h0 A' c' w' h hs => by
    obtain ⟨e1, e2⟩ := decC_encC c h20 hp (by rw [← hea]; exact h0)
    have hl := cmB_len c h20 hp hn l1 l2 l3
    have := decC_any a (by rw [ha, e1]; exact hl) A' c' w' (HG.out.below h) hs
    rw [ha, e1, e2] at this
    rw [ha, e1]
    exact this
  have kdt : ex = 0 → ∀ A' c' w', Below W0.heap.size W0 w' → Bs w' A' x → Calls Tryz.prog 33 #[.slice A' x.length c'] w' (OutT t 0 w') := fun h0 A' c' w' h hs => by
    obtain ⟨e1, e2⟩ := decT_encT t t20 (by rw [← hex]; exact h0)
    have hl := tgB_len t t20 l4 l5 l6
    have := decT_any x (by rw [hx, e1]; exact hl) A' c' w' (HG.out.below h) hs
    rw [hx, e1, e2] at this
    rw [hx, e1]
    exact this
  have ksc : ∀ A' B' m n w', Sl w' A' (idc c.parents) → Sl w' B' (idc c.parents) → Calls Tryz.prog 32 #[cv (ck c (.slice A' c.parents.length m)), cv (ck c (.slice B' c.parents.length n))] w' fun e w'' => e = .returned (.bool true) ∧ Below w'.heap.size w' w'' := fun A' B' m n w' h1 h2 => sameC_any c h20 hp (by omega) A' B' m n w' h1 h2
  have ktq : ∀ w, (binOp .neq 47 (tv t) (tv t)).run Tryz.prog w = .ok (.bool false) w := fun w => tagO_neq t t20 w
  obtain ⟨dt, hdt⟩ : ∃ dt, dt = dateI c.committer := ⟨_, rfl⟩
  rw [← hdt] at kd kdr
  rw [← hk0] at hW0 hk ⊢
  obtain ⟨n, hnn⟩ : ∃ n, n = c.parents.length := ⟨_, rfl⟩
  obtain ⟨na, hna⟩ : ∃ na, na = a.length := ⟨_, rfl⟩
  obtain ⟨nx, hnx⟩ : ∃ nx, nx = x.length := ⟨_, rfl⟩
  obtain ⟨s1, hs1⟩ : ∃ s1, s1 = c.author := ⟨_, rfl⟩
  obtain ⟨s2, hs2⟩ : ∃ s2, s2 = c.committer := ⟨_, rfl⟩
  obtain ⟨s3, hs3⟩ : ∃ s3, s3 = c.message := ⟨_, rfl⟩
  obtain ⟨s4, hs4⟩ : ∃ s4, s4 = t.name := ⟨_, rfl⟩
  obtain ⟨s5, hs5⟩ : ∃ s5, s5 = t.tagger := ⟨_, rfl⟩
  obtain ⟨s6, hs6⟩ : ∃ s6, s6 = t.message := ⟨_, rfl⟩
  rw [← hnn, ← hs1, ← hs2, ← hs3, ← hs4, ← hs5, ← hs6] at hk
  rw [← hnn] at hn kc ker ksc
  rw [← hs1] at l1
  rw [← hs2] at l2
  rw [← hs3] at l3
  rw [← hs4] at l4
  rw [← hs5] at l5
  rw [← hs6] at l6
  have z1 := bstr_size s1; have z2 := bstr_size s2; have z3 := bstr_size s3; have z4 := bstr_size s4; have z5 := bstr_size s5; have z6 := bstr_size s6
  have HK := Lib.hid hk; have HW0 := Lib.hid hW0; have HB0 := Lib.hid hb0; have KE := Lib.hid ke; have KC := Lib.hid kc; have KER := Lib.hid ker; have KT := Lib.hid kt; have KTR := Lib.hid ktr; have KTT := Lib.hid ktt; have KD := Lib.hid kd; have KDR := Lib.hid kdr; have KDC := Lib.hid kdc; have KDT := Lib.hid kdt; have KSC := Lib.hid ksc; have KTQ := Lib.hid ktq
  have HNN := Lib.hid hnn; have HNA := Lib.hid hna; have HNX := Lib.hid hnx; have H20 := Lib.hid h20; have T20 := Lib.hid t20; have K20 := Lib.hid k20
  clear hg hA hk hW0 hb0 hnn hna hnx hs1 hs2 hs3 hs4 hs5 hs6 hk0 ke kc ker kt ktr ktt kd kdr kdc kdt ksc ktq h20 t20 hp hA0 k20 kcm ha hea hx hex hdt
  go_enter Tryz.func5, Tryz.ntmps5
  go_upto_region 1 with fail
  rw [← HW0.out]
  go_upto_region 5 with (go_at_call 10; (with_reducible refine kk.mono ?_); rintro e w1 ⟨rfl, hb1⟩
                         obtain ⟨⟨c1, c2, c3, c4, d2, d3, d4⟩, lk1, _⟩ := HK.out w1 hb1)
  clear c1 c2 c3 c4 d2 d3 d4 z1 z2 z3 z4 z5 z6 hn l1 l2 l3 l4 l5 l6
  go_upto_region 9 with (first
    | (refine wpList_loadG 45 (.tmp 2) rfl ⟨w.heap.size, 0, none⟩ rfl _ lk1 rfl ?_)
    | (refine wpList_loadG 45 (.tmp 2) rfl ⟨w.heap.size, 0, none⟩ rfl _ lk2 rfl ?_)
    | (refine wpList_loadG 47 (.tmp 3) rfl ⟨w.heap.size + 1, 0, none⟩ rfl _ lt4 rfl ?_)
    | (refine wpList_loadG 47 (.tmp 3) rfl ⟨w.heap.size + 1, 0, none⟩ rfl _ lt5 rfl ?_)
    | (go_at_call 23; (with_reducible refine (KE.out _ hb1).mono ?_); rintro e w2 ⟨⟨A2, c2, rfl, hc2, hs2⟩, hb2⟩
       have b2 := Lib.hid (hb1.trans (hb2.mono hb1.size)); have S2 := Lib.hid hs2
       have lk2 := (HK.out w2 b2.out).2.1)
    | (go_at_call 25; (with_reducible refine (KC.out _ b2.out).mono ?_); rintro e w3 ⟨B3, n3, rfl, hs3, hb3⟩
       have b3 := Lib.hid (b2.out.trans (hb3.mono b2.out.size)); have S23 := Lib.hid (S2.out.below hb3))
    | (go_at_call 24; (with_reducible refine (KER.out _ _ _ hs3).mono ?_); rintro e w4 ⟨⟨A4, c4, rfl, hc4, hs4⟩, hb4⟩
       have b4 := Lib.hid (b3.out.trans (hb4.mono b3.out.size)); have S24 := Lib.hid (S23.out.below hb4); have S4 := Lib.hid hs4
       have lt4 := (HK.out w4 b4.out).2.2)
    | (go_at_call 26; (with_reducible refine (KT.out _).mono ?_); rintro e w5 ⟨⟨A5, c5, rfl, hc5, hs5⟩, hb5⟩
       have b5 := Lib.hid (b4.out.trans (hb5.mono b4.out.size)); have S25 := Lib.hid (S24.out.below hb5); have S45 := Lib.hid (S4.out.below hb5); have S5 := Lib.hid hs5
       have lt5 := (HK.out w5 b5.out).2.2)
    | (go_at_call 28; (with_reducible refine (KTT.out _).mono ?_); rintro e w6 ⟨rfl, hb6⟩
       have b6 := Lib.hid (b5.out.trans (hb6.mono b5.out.size)); have S26 := Lib.hid (S25.out.below hb6); have S46 := Lib.hid (S45.out.below hb6); have S56 := Lib.hid (S5.out.below hb6))
    | (go_at_call 27; (with_reducible refine (KTR.out _).mono ?_); rintro e w7 ⟨⟨A7, c7, rfl, hc7, hs7⟩, hb7⟩
       have b7 := Lib.hid (b6.out.trans (hb7.mono b6.out.size)); have S27 := Lib.hid (S26.out.below hb7); have S47 := Lib.hid (S46.out.below hb7); have S57 := Lib.hid (S56.out.below hb7); have S7 := Lib.hid hs7))
  clear hs2 hs3 hs4 hs5 hs7 hb1 hb2 hb3 hb4 hb5 hb6 hb7 lk1 lk2 lt4 lt5 S2 S23 S24 S25 S26 S4 S45 S46 S5 S56 b2 b3 b4 b5 b6 hc2 hc4 hc5 hc7
  rw [← HNA.out, ← HNX.out]
  have v2 := Lib.hid (fun w' (h : Below w7.heap.size w7 w') => conv34 (n := na) (c := c2) (S27.out.below h) HNA.out)
  have v4 := Lib.hid (fun w' (h : Below w7.heap.size w7 w') => conv34 (n := na) (c := c4) (S47.out.below h) HNA.out)
  have v5 := Lib.hid (fun w' (h : Below w7.heap.size w7 w') => conv34 (n := nx) (c := c5) (S57.out.below h) HNX.out)
  have v7 := Lib.hid (fun w' (h : Below w7.heap.size w7 w') => conv34 (n := nx) (c := c7) (S7.out.below h) HNX.out)
  have lc7 := Lib.hid (fun w' (h : Below w7.heap.size w7 w') => (HK.out w' (b7.out.trans (h.mono b7.out.size))).2.1)
  refine wp_region_plan [(0, false), (1, false), (2, false), (3, false), (4, false), (5, false), (6, false), (7, false), (8, false), (9, false), (10, false), (11, false), (12, false), (13, false), (14, false), (15, false), (16, false), (17, false), (18, false), (19, false), (20, false), (21, false), (22, false), (23, false), (25, false), (24, true), (26, true), (27, true), (28, false), (29, false)] (fun u v => Below u.heap.size u v) bel_refl bel_trans (by kernel_rfl) (by kernel_rfl) ?_
  iterate 1 (refine wpG_still _ rfl rfl ?_; go_big_quiet_step ((intro hb; rfl)); refine wpQuiet_nil ?_)
  (refine wpG_still _ rfl rfl ?_; refine wpQuiet_pureC _ rfl rfl (.string (bstr a)) (fun w' h => run_conv 22 9 (.tmp 81) rfl (.slice A2 na c2) _ rfl (v2.out w' (bel_undrew h))) ?_; simp only [List.set_cons_succ, List.set_cons_zero]; refine wpQuiet_nil ?_)
  iterate 1 (refine wpG_still _ rfl rfl ?_; go_big_quiet_step ((intro hb; rfl)); refine wpQuiet_nil ?_)
  (refine wpG_still _ rfl rfl ?_; refine wpQuiet_pureC _ rfl rfl (.string (bstr a)) (fun w' h => run_conv 22 9 (.tmp 83) rfl (.slice A4 na c4) _ rfl (v4.out w' (bel_undrew h))) ?_; simp only [List.set_cons_succ, List.set_cons_zero]; refine wpQuiet_nil ?_)
  iterate 8 (refine wpG_still _ rfl rfl ?_; go_big_quiet_step ((intro hb; rfl)); refine wpQuiet_nil ?_)
  (refine wpG_still _ rfl rfl ?_; refine wpQuiet_pureC _ rfl rfl (.string (bstr x)) (fun w' h => run_conv 22 9 (.tmp 92) rfl (.slice A5 nx c5) _ rfl (v5.out w' (bel_undrew h))) ?_; simp only [List.set_cons_succ, List.set_cons_zero]; refine wpQuiet_nil ?_)
  iterate 1 (refine wpG_still _ rfl rfl ?_; go_big_quiet_step ((intro hb; rfl)); refine wpQuiet_nil ?_)
  (refine wpG_still _ rfl rfl ?_; refine wpQuiet_pureC _ rfl rfl (.string (bstr x)) (fun w' h => run_conv 22 9 (.tmp 94) rfl (.slice A7 nx c7) _ rfl (v7.out w' (bel_undrew h))) ?_; simp only [List.set_cons_succ, List.set_cons_zero]; refine wpQuiet_nil ?_)
  iterate 8 (refine wpG_still _ rfl rfl ?_; go_big_quiet_step ((intro hb; rfl)); refine wpQuiet_nil ?_)
  (refine wpG_still _ rfl rfl ?_; refine wpQuiet_load 45 (.tmp 2) rfl ⟨w.heap.size, 0, none⟩ rfl (cv k) (fun w' h => lc7.out w' (bel_undrew h)) _ rfl rfl ?_; simp only [List.set_cons_succ, List.set_cons_zero]; refine wpQuiet_nil ?_)
  (refine wpG_still _ rfl rfl ?_; refine wpQuiet_load 45 (.tmp 2) rfl ⟨w.heap.size, 0, none⟩ rfl (cv k) (fun w' h => lc7.out w' (bel_undrew h)) _ rfl rfl ?_; simp only [List.set_cons_succ, List.set_cons_zero]; refine wpQuiet_nil ?_)
  refine wpG_call _ rfl rfl 29 _ (fun w => rfl) ?_
  refine calls_as (args' := #[cv k]) (by simp [Act.eval]) ?_
  refine (KD.out _ b7.out.drew).mono ?_
  rintro e w8 ⟨rfl, hb8⟩
  refine ⟨_, rfl, hb8, ?_⟩
  simp only [Act.put, List.setIfInBounds_toArray, List.set_cons_succ, List.set_cons_zero]
  have b78 := Lib.hid (bel_undrew hb8)
  have b8 := Lib.hid (b7.out.trans (b78.out.mono b7.out.size))
  clear hb8
  refine wpG_call _ rfl rfl 25 _ (fun w => rfl) ?_
  refine calls_as (args' := #[cv k]) (by simp [Act.eval]) ?_
  refine (KC.out _ b8.out).mono ?_
  rintro e w9 ⟨B9, n9, rfl, hs9, hb9⟩
  refine ⟨_, rfl, hb9, ?_⟩
  simp only [Act.put, List.setIfInBounds_toArray, List.set_cons_succ, List.set_cons_zero]
  have b89 := Lib.hid hb9
  clear hb9 hs9
  refine wpG_call _ rfl rfl 30 _ (fun w => rfl) ?_
  refine calls_as (args' := #[cv (ck c (.slice B9 n n9))]) (by simp [Act.eval]) ?_
  refine (KDR.out _ _).mono ?_
  rintro e w10 ⟨rfl, hb10⟩
  refine ⟨_, rfl, hb10, ?_⟩
  simp only [Act.put, List.setIfInBounds_toArray, List.set_cons_succ, List.set_cons_zero]
  have b710 := Lib.hid (b78.out.trans ((b89.out.trans (hb10.mono b89.out.size)).mono b78.out.size))
  have b10 := Lib.hid (b7.out.trans (b710.out.mono b7.out.size))
  clear hb10
  iterate 2 (refine wpG_still _ rfl rfl ?_; go_big_quiet_step ((intro hb; rfl)); refine wpQuiet_nil ?_)
  refine wpG_nil ?_
  clear v2 v4 v5 v7 lc7 b78 b8 b89
  go_upto_if 112 with fail
  go_cut [] (fun wx => Below w7.heap.size w7 wx)
  case first =>
    by_cases h0 : ea = 0
    · have KD2 := Lib.hid (KDC.out h0)
      subst h0
      have hdc := KD2.out A2 c2 w10 b10.out (S27.out.below b710.out)
      rw [← HNA.out] at hdc
      go_upto_region 13 with (first
        | (go_at_call 31; (with_reducible refine hdc.mono ?_); rintro e w11 ⟨⟨A11, c11, rfl, _, hc11, hs11⟩, hb11⟩
           have zk3 := Lib.hid (infoC (k := ck c (.slice A11 c.parents.length c11)) H20.out); have zl3 := Lib.hid (zck_size (k := ck c (.slice A11 c.parents.length c11)) H20.out); have zo3 := Lib.hid (ccell_one (k := ck c (.slice A11 c.parents.length c11)) rfl))
        | (simp only [zcklit]; refine wpList_store_row rfl 45 (.tmp 13) (.tmp 116) rfl w11.heap.size _ rfl rfl 45 zck (heap_alloc_new _ _) zk3.out zl3.out zo3.out ?_))
      obtain ⟨r12, b12⟩ := new_set w11 45 zck (ccell (ck c (.slice A11 c.parents.length c11))).toArray
      obtain ⟨W12, hW12⟩ : ∃ W12, W12 = (w11.alloc (.cells zck 45)).setRow w11.heap.size (ccell (ck c (.slice A11 c.parents.length c11))).toArray := ⟨_, rfl⟩
      rw [← hW12] at r12 b12
      try simp only [Act.put]
      rw [← hW12]
      have S12 : Sl W12 (some ⟨w11.heap.size, 0, none⟩) (ccell (ck c (.slice A11 c.parents.length c11))) := Sl.of_block r12 (fun j v hj => by simpa using hj)
      have l12 := Lib.hid (fun w' (h : Below W12.heap.size W12 w') => load_ck H20.out (S12.below h))
      have b712 := Lib.hid (b710.out.trans ((hb11.trans (b12.mono hb11.size)).mono b710.out.size))
      have b012 := Lib.hid (b7.out.trans (b712.out.mono b7.out.size))
      have lc12 := Lib.hid (fun w' (h : Below W12.heap.size W12 w') => (HK.out w' (b012.out.trans (h.mono b012.out.size))).2.1)
      have HS11 := Lib.hid (hs11.below b12)
      clear r12 b12 hW12 S12 hs11 hb11 zk3 zl3 zo3 hdc
      refine wp_region_plan [(0, false), (1, false), (2, false), (3, false), (4, false), (5, true), (6, true), (7, false), (8, false)] (fun u v => Below u.heap.size u v) bel_refl bel_trans (by kernel_rfl) (by kernel_rfl) ?_
      iterate 3 (refine wpG_still _ rfl rfl ?_; go_big_quiet_step ((intro hb; rfl)); refine wpQuiet_nil ?_)
      (refine wpG_still _ rfl rfl ?_; refine wpQuiet_load 45 (.tmp 13) rfl ⟨w11.heap.size, 0, none⟩ rfl (cv (ck c (.slice A11 c.parents.length c11))) (fun w' h => l12.out w' (bel_undrew h)) _ rfl rfl ?_; simp only [List.set_cons_succ, List.set_cons_zero]; refine wpQuiet_nil ?_)
      (refine wpG_still _ rfl rfl ?_; refine wpQuiet_load 45 (.tmp 2) rfl ⟨w.heap.size, 0, none⟩ rfl (cv k) (fun w' h => lc12.out w' (bel_undrew h)) _ rfl rfl ?_; simp only [List.set_cons_succ, List.set_cons_zero]; refine wpQuiet_nil ?_)
      refine wpG_call _ rfl rfl 25 _ (fun w => rfl) ?_
      refine calls_as (args' := #[cv k]) (by simp [Act.eval]) ?_
      refine (KC.out _ b012.out.drew).mono ?_
      rintro e w13 ⟨B13, n13, rfl, hs13, hb13⟩
      refine ⟨_, rfl, hb13, ?_⟩
      simp only [Act.put, List.setIfInBounds_toArray, List.set_cons_succ, List.set_cons_zero]
      have b1213 := Lib.hid (bel_undrew hb13)
      have HS13 := Lib.hid hs13
      clear hb13 hs13
      refine wpG_call _ rfl rfl 32 _ (fun w => rfl) ?_
      refine calls_as (args' := #[cv (ck c (.slice A11 c.parents.length c11)), cv (ck c (.slice B13 n n13))]) (by simp [Act.eval]) ?_
      have hsc := KSC.out A11 B13 c11 n13 w13
      rw [HNN.out] at hsc ⊢
      refine (hsc (HS11.out.below b1213.out) HS13.out).mono ?_
      rintro e w14 ⟨rfl, hb14⟩
      refine ⟨_, rfl, hb14, ?_⟩
      simp only [Act.put, List.setIfInBounds_toArray, List.set_cons_succ, List.set_cons_zero]
      have b714 := Lib.hid (b712.out.trans ((b1213.out.trans (hb14.mono b1213.out.size)).mono b712.out.size))
      clear hb14 hsc
      iterate 2 (refine wpG_still _ rfl rfl ?_; go_big_quiet_step ((intro hb; rfl)); refine wpQuiet_nil ?_)
      refine wpG_nil ?_
      go_wp2
      go_meet
      case rel => exact b714.out
    · have f0 : ((ea : Int) == 0) = false := by simpa using h0
      go_wp2
      go_meet
      case rel => exact b710.out
  case rest =>
    have B7C := Lib.hid hcut
    have B0C := Lib.hid (b7.out.trans (hcut.mono b7.out.size))
    have S5C := Lib.hid (S57.out.below hcut)
    clear hcut
    by_cases h1 : ex = 0
    · have KD2 := Lib.hid (KDT.out h1)
      subst h1
      have hdt := KD2.out A5 c5 wc B0C.out S5C.out
      rw [← HNX.out] at hdt
      have zi := Lib.hid (infoT T20.out); have zs := Lib.hid (ztg_size T20.out)
      go_upto_region 17 with (first
        | (go_at_call 33; (with_reducible refine hdt.mono ?_); rintro e w15 ⟨rfl, hb15⟩)
        | (simp only [ztglit]; refine wpList_store_row rfl 47 (.tmp 15) (.tmp 132) rfl w15.heap.size (tcell t).toArray rfl rfl 47 ztg (heap_alloc_new _ _) zi.out zs.out tcell_one ?_))
      obtain ⟨r16, b16⟩ := new_set w15 47 ztg (tcell t).toArray
      obtain ⟨W16, hW16⟩ : ∃ W16, W16 = (w15.alloc (.cells ztg 47)).setRow w15.heap.size (tcell t).toArray := ⟨_, rfl⟩
      rw [← hW16] at r16 b16
      try simp only [Act.put]
      rw [← hW16]
      have S16 : Sl W16 (some ⟨w15.heap.size, 0, none⟩) (tcell t) := Sl.of_block r16 (fun j v hj => by simpa using hj)
      have l16 := load_tg T20.out S16
      have b016 := B0C.out.trans ((hb15.trans (b16.mono hb15.size)).mono B0C.out.size)
      have l17 := (HK.out W16 b016).2.2
      have B16 := Lib.hid (HB0.out.trans (b016.mono HB0.out.size))
      have ktq := KTQ.out
      clear r16 b16 hW16 S16 b016 hb15 hdt
      go_wp2_with (first
        | (refine wpList_loadG 47 (.tmp 15) rfl ⟨w15.heap.size, 0, none⟩ rfl _ l16 rfl ?_)
        | (refine wpList_loadG 47 (.tmp 3) rfl ⟨w.heap.size + 1, 0, none⟩ rfl _ l17 rfl ?_))
      go_ret
      exact ⟨rfl, B16.out⟩
    · have f1 : ((ex : Int) == 0) = false := by simpa using h1
      go_wp2
      go_ret
      exact ⟨rfl, HB0.out.trans (B0C.out.mono HB0.out.size)⟩
theorem commits_all (c : Cm) (h20 : c.tree.length = 20) (hp : All20 c.parents) (A : Option Addr) (cap : Nat) (hA0 : A = none → cap = 0) (t : Tg) (t20 : t.object.length = 20) (bn : c.parents.length ≤ 9223372036854775807) (b1 : c.author.length ≤ 9223372036854775807) (b2 : c.committer.length ≤ 9223372036854775807) (b3 : c.message.length ≤ 9223372036854775807) (b4 : t.name.length ≤ 9223372036854775807) (b5 : t.tagger.length ≤ 9223372036854775807) (b6 : t.message.length ≤ 9223372036854775807) (w : World) (hg : Gb w) (hA : Sl w A (idc c.parents)) :
    Calls Tryz.prog 5 #[cv (ck c (.slice A c.parents.length cap)), tv t] w fun e w' => e = .returned (.bool true) ∧ Below w.heap.size w w' := by
  by_cases h : 20 < c.parents.length ∨ 300 < c.author.length ∨ 300 < c.committer.length ∨ 3000 < c.message.length ∨ 300 < t.name.length ∨ 300 < t.tagger.length ∨ 3000 < t.message.length
  · exact commits_pass c h20 A cap t t20 bn b1 b2 b3 b4 b5 b6 h w hg
  · exact commits_law c h20 hp A cap hA0 t t20 (by omega) (by omega) (by omega) (by omega) (by omega) (by omega) (by omega) w hg hA
end
end Go.Proofs.YtcedfapcpmedfaaGreatDoor
