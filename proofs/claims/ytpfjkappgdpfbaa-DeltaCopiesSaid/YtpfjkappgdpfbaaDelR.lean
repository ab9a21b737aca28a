/- delta.Parse computes DelP's deltaR. Condition: a list of bytes has at most 2^40 of them. -/
import Derived.Test.YtpfjkappgdpfbaaDelT
namespace Go.Proofs.Ytpfjkappgdpfbaa
open Go.RowKit
set_option maxRecDepth 100000
set_option maxHeartbeats 400000
def opCells (v : Value) (o : DOp) : List Value := [.bool o.cp, .int .i64 o.fr, .int .i64 o.n, v]
def flatOps (vs : List Value) (l : List DOp) : List Value := (List.zipWith opCells vs l).flatten
theorem flatOps_snoc (vs : List Value) (l : List DOp) (h : vs.length = l.length) (v : Value) (o : DOp) : flatOps (vs ++ [v]) (l ++ [o]) = flatOps vs l ++ opCells v o := by
  rw [flatOps, List.zipWith_append h]; simp [flatOps]
theorem flatOps_len (vs : List Value) (l : List DOp) (h : vs.length = l.length) : (flatOps vs l).length = l.length * 4 := by
  induction l generalizing vs with
  | nil => cases vs <;> simp [flatOps]
  | cons o l ih =>
    cases vs with
    | nil => simp at h
    | cons v vs =>
      have := ih vs (by simpa using h)
      simp only [flatOps, List.zipWith_cons_cons, List.flatten_cons, List.length_append, List.length_cons] at *
      rw [this]; simp [opCells]; omega
theorem flatOps_at (vs : List Value) (l : List DOp) (h : vs.length = l.length) (j : Nat) (v : Value) (o : DOp) (hv : vs[j]? = some v) (ho : l[j]? = some o) (i : Nat) (hi : i < 4) :
    (flatOps vs l)[j * 4 + i]? = (opCells v o)[i]? := by
  induction l generalizing vs j with
  | nil => simp at ho
  | cons o' l ih =>
    cases vs with
    | nil => simp at h
    | cons v' vs =>
      cases j with
      | zero =>
        simp at hv ho
        subst hv ho
        simp only [flatOps, List.zipWith_cons_cons, List.flatten_cons, Nat.zero_mul, Nat.zero_add]
        rw [List.getElem?_append_left (by simp [opCells]; omega)]
      | succ j =>
        simp only [flatOps, List.zipWith_cons_cons, List.flatten_cons]
        rw [List.getElem?_append_right (by simp [opCells]; omega), show (j + 1) * 4 + i - (opCells v' o').length = j * 4 + i by simp [opCells]; omega]
        exact ih vs (by simpa using h) j (by simpa using hv) (by simpa using ho)
/-- steps of the call's own; T: the element type -/
def OpsW (w : World) (B T : Nat) (v : Value) (l : List DOp) : Prop :=
  ∃ vs : List Value, vs.length = l.length ∧ Win w B T 4 v l.length (flatOps vs l) ∧ ∀ (j : Nat) (d : Value) (o : DOp), vs[j]? = some d → l[j]? = some o → WinB w B 5 d o.data
theorem OpsW.nil (w : World) (B T : Nat) : OpsW w B T (.slice none 0 0) [] := ⟨[], rfl, Win.nil _ _ _ _, fun j d o h => by simp at h⟩
theorem OpsW.below {w w' : World} {B T : Nat} {v : Value} {l : List DOp} (h : OpsW w B T v l) (hb : Below w.heap.size w w') : OpsW w' B T v l := by
  obtain ⟨vs, h1, h2, h3⟩ := h
  exact ⟨vs, h1, h2.below hb, fun j d o hd ho => (h3 j d o hd ho).below hb⟩
theorem OpsW.clip {w : World} {B T k c m : Nat} {A : Option Addr} {l : List DOp} (h : OpsW w B T (.slice A k c) l) (hm : m = l.length) : OpsW w B T (.slice A m m) l := by
  obtain ⟨vs, h1, h2, h3⟩ := h
  obtain ⟨A', c', he, _⟩ := Win.reads h2
  injection he with _ e2 _
  subst hm e2
  exact ⟨vs, h1, Win.clip h2, h3⟩
theorem OpsW.form {w : World} {B T n : Nat} {v : Value} {l : List DOp} (h : OpsW w B T v l) (hn : l.length = n) : ∃ A c, v = .slice A n c ∧ n ≤ c ∧ c ≤ maxLen := by
  obtain ⟨vs, h1, h2, h3⟩ := h
  obtain ⟨A, c, he, h4, h5, _⟩ := Win.reads h2
  subst hn
  exact ⟨A, c, he, h4, h5⟩
/-- two rows of unlike types lie in two blocks -/
theorem Win.apart {w : World} {B B' e e' s s' n n' : Nat} {v v' : Value} {xs xs' : List Value} (h : Win w B e s v n xs) (h' : Win w B' e' s' v' n' xs') (hne : e ≠ e') : ∀ g, v.ownBlock = some g → ¬ v'.ownBlock = some g := by
  intro g hg hg'
  rcases h.2 with ⟨rfl, _⟩ | ⟨g1, off, cap, cur, rfl, _, h2, _⟩
  · cases hg
  · rcases h'.2 with ⟨rfl, _⟩ | ⟨g2, off', cap', cur', rfl, _, h2', _⟩
    · cases hg'
    · simp [Value.ownBlock] at hg hg'
      subst hg hg'
      rw [h2] at h2'
      injection h2' with h2'
      injection h2' with _ h2' _
      exact hne h2'
/-- one step more, appended -/
theorem OpsW.snoc {w w' : World} {B T : Nat} {v v' d : Value} {l : List DOp} {o : DOp} {vs : List Value} (hT : T ≠ 5) (h1 : vs.length = l.length) (h2 : Win w B T 4 v l.length (flatOps vs l))
    (h3 : ∀ (j : Nat) (d : Value) (o : DOp), vs[j]? = some d → l[j]? = some o → WinB w B 5 d o.data) (hd : WinB w B 5 d o.data)
    (hv : Win w' B T 4 v' (l.length + 1) (flatOps vs l ++ opCells d o)) (hk : Kp (fun k => v.ownBlock = some k) w w') : OpsW w' B T v' (l ++ [o]) := by
  have hdd : ∀ d o', WinB w B 5 d o' → WinB w' B 5 d o' := fun d o' hd => hd.kp hk (fun g hg e => Win.apart h2 hd hT g e hg)
  refine ⟨vs ++ [d], by simp [h1], by rw [flatOps_snoc vs l h1, List.length_append]; exact hv, fun j d' o' hd' ho' => ?_⟩
  rcases Nat.lt_or_ge j vs.length with hj | hj
  · rw [List.getElem?_append_left hj] at hd'
    rw [List.getElem?_append_left (by omega)] at ho'
    exact hdd _ _ (h3 j d' o' hd' ho')
  · rw [List.getElem?_append_right hj] at hd'
    rw [List.getElem?_append_right (by omega)] at ho'
    have hj0 : j - vs.length = 0 := by
      rcases Nat.eq_zero_or_pos (j - vs.length) with h | h
      · exact h
      · rw [List.getElem?_eq_none (by simp; omega)] at hd'; cases hd'
    rw [hj0] at hd'
    rw [show j - l.length = 0 by omega] at ho'
    simp at hd' ho'
    subst hd' ho'
    exact hdd _ _ hd
/-- steps that can be read -/
def OpsR (w : World) (A : Option Addr) (l : List DOp) : Prop :=
  ∀ (k : Nat) (o : DOp), l[k]? = some o → ∃ ad Ad cd, A = some ad ∧ Sl w (some (ad.add (k * 4))) (opCells (.slice Ad o.data.length cd) o) ∧ o.data.length ≤ cd ∧ cd ≤ maxLen ∧ Bs w Ad o.data
theorem OpsR.below {w w' : World} {A : Option Addr} {l : List DOp} (h : OpsR w A l) (hb : Below w.heap.size w w') : OpsR w' A l := fun k o ho => by
  obtain ⟨ad, Ad, cd, e, h1, h2, h3, h4⟩ := h k o ho
  exact ⟨ad, Ad, cd, e, h1.below hb, h2, h3, h4.below hb⟩
theorem OpsW.reads {w : World} {B T : Nat} {v : Value} {l : List DOp} (h : OpsW w B T v l) : ∃ A c, v = .slice A l.length c ∧ l.length ≤ c ∧ c ≤ maxLen ∧ OpsR w A l := by
  obtain ⟨vs, h1, h2, h3⟩ := h
  obtain ⟨A, c, he, h4, h5, h6⟩ := Win.reads h2
  refine ⟨A, c, he, h4, h5, fun k o ho => ?_⟩
  have hk : k < vs.length := by
    rcases Nat.lt_or_ge k vs.length with h | h
    · exact h
    · rw [List.getElem?_eq_none (by omega)] at ho; cases ho
  obtain ⟨Ad, cd, hd, h7, h8, h9⟩ := WinB.reads (h3 k vs[k] o (by simp [hk]) ho)
  obtain ⟨ad, e, hs⟩ := Sl.part h6 (k * 4) (opCells (.slice Ad o.data.length cd) o) (fun j v hj => by
    have hj4 : j < 4 := by
      rcases Nat.lt_or_ge j 4 with h | h
      · exact h
      · rw [List.getElem?_eq_none (by simp [opCells]; omega)] at hj; cases hj
    rw [flatOps_at vs l h1 k vs[k] o (by simp [hk]) ho j hj4, hd]; exact hj) (by simp [opCells])
  exact ⟨ad, Ad, cd, e, hs, h7, h8, h9⟩
def contR (acc : List DOp) (r : Except Nat (List DOp)) : Except Nat (List DOp) := match r with | .error e => .error e | .ok l => .ok (acc ++ l)
theorem contR_step {acc : List DOp} {d r : List UInt8} {o : DOp} (h : stepR d = .ok (o, r)) : contR acc (parseR d) = contR (acc ++ [o]) (parseR r) := by
  rw [parseR_step h]
  cases parseR r <;> simp [contR]
theorem Try.size37 (w : World) : ∃ s, (sizeOf 37).run Try.prog w = .ok s w := ⟨4, by kernel_rfl⟩
theorem Try.info37 : (Try.prog.info? 37).map (fun i => (i.zero, i.size, i.bytes)) = some (some (.agg #[.bool false, .int .i64 0, .int .i64 0, .slice none 0 0]), 4, 48) := by kernel_rfl
theorem clip35 (A : Option Addr) (n c : Nat) (h : n ≤ c) (w : World) : Calls Try.prog 50 #[.slice A n c] w fun e w' => e = .returned (.slice A n n) ∧ w = w' := by
  have hs := slice_clip Try.underlying35 Try.size37 A n c h
  go_enter Try.func50, Try.ntmps50
  go_wp2
  go_ret
  exact ⟨rfl, rfl⟩
theorem step_err (A : Option Addr) (c : Nat) (d : List UInt8) (w : World) (hl : d.length ≤ 1099511627776) (h0 : 0 < d.length) (hc : d.length ≤ c) (hA : Bs w A d) {f : Nat} (h : stepR d = .error f) :
    Calls Try.prog 49 #[.slice A d.length c] w fun e w' => e = .returned (.tuple #[.agg #[.bool false, .int .i64 0, .int .i64 0, .slice none 0 0], .int .i64 0, .int .i64 (f : Nat)]) ∧ Below w.heap.size w w' :=
  (step_any A c d w hl h0 hc hA).mono fun e w' hs => by
    rcases hs with ⟨f', h1, h2, h3⟩ | ⟨o, r, v, h1, _⟩
    · rw [h] at h1; cases h1; exact ⟨h2, h3⟩
    · rw [h] at h1; cases h1
theorem step_ok (A : Option Addr) (c : Nat) (d : List UInt8) (w : World) (hl : d.length ≤ 1099511627776) (h0 : 0 < d.length) (hc : d.length ≤ c) (hA : Bs w A d) {o : DOp} {r : List UInt8} (h : stepR d = .ok (o, r)) :
    Calls Try.prog 49 #[.slice A d.length c] w fun e w' => ∃ v, e = .returned (.tuple #[.agg #[.bool o.cp, .int .i64 o.fr, .int .i64 o.n, v], .int .i64 ((d.length - r.length : Nat) : Int), .int .i64 0]) ∧ WinB w' w.heap.size 5 v o.data ∧ Below w.heap.size w w' :=
  (step_any A c d w hl h0 hc hA).mono fun e w' hs => by
    rcases hs with ⟨f', h1, _⟩ | ⟨o', r', v, h1, h2, h3, h4⟩
    · rw [h] at h1; cases h1
    · rw [h] at h1; cases h1; exact ⟨v, h2, h3, h4⟩
theorem stepR_drop {d : List UInt8} {o : DOp} {r : List UInt8} (h : stepR d = .ok (o, r)) : r = d.drop (d.length - r.length) := by
  have key : ∀ (c j : Nat) (d : List UInt8) (fr n : Nat) (x : Nat × Nat × List UInt8), cpR c j d fr n = some x → x.2.2 = d.drop (d.length - x.2.2.length) := by
    intro c j
    induction j with
    | zero => intro d fr n x h; simp only [cpR, Option.some.injEq] at h; subst h; simp
    | succ j ih =>
      intro d fr n x h
      by_cases hb : c / 2 ^ (6 - j) % 2 = 0
      · rw [cpR_no hb] at h; exact ih d fr n x h
      · cases d with
        | nil => rw [cpR_end hb] at h; cases h
        | cons b d' =>
          rw [cpR_yes hb] at h
          have hl : x.2.2.length ≤ d'.length := by
            split at h
            · exact cpR_len _ _ _ _ _ _ h
            · exact cpR_len _ _ _ _ _ _ h
          have e : x.2.2 = d'.drop (d'.length - x.2.2.length) := by
            split at h
            · exact ih d' _ _ x h
            · exact ih d' _ _ x h
          rw [List.length_cons, show d'.length + 1 - x.2.2.length = (d'.length - x.2.2.length) + 1 by omega, List.drop_succ_cons]
          exact e
  cases d with
  | nil => cases h
  | cons c d =>
    simp only [stepR] at h
    split at h
    · cases h
    · split at h
      · split at h
        · cases h
        · cases h
          rename_i hlt
          simp only [List.length_drop, List.length_cons]
          rw [show d.length + 1 - (d.length - c.toNat) = c.toNat + 1 by omega, List.drop_succ_cons]
      · split at h
        · cases h
        · rename_i hc
          cases h
          have h1 := cpR_len _ _ _ _ _ _ hc
          have h2 := key _ _ _ _ _ _ hc
          simp only at h1 h2
          rw [List.length_cons, Nat.succ_sub h1, List.drop_succ_cons]
          exact h2
theorem stepR_err {d : List UInt8} {f : Nat} (h : stepR d = .error f) : f ≠ 0 := by
  cases d with
  | nil => cases h; decide
  | cons c d =>
    simp only [stepR] at h
    split at h
    · cases h; decide
    · split at h
      · split at h
        · cases h; decide
        · cases h
      · split at h
        · cases h; decide
        · cases h
theorem contR_err {acc : List DOp} {r : List UInt8} {f : Nat} (h : parseR r = .error f) : contR acc (parseR r) = .error f := by rw [h]; rfl
/-- append of one step to steps of the call's own -/
theorem appW35 {w : World} {ops : Array Oper} {rest : List Oper} {o : Oper} {a : Act} {Q : Exit → Act → World → Prop} (hgd : o.guard = none) (s x : Operand)
    (ho : o.op = .call { callee := .builtin .append, args := #[s, x], argTypes := #[35, 35] })
    (B : Nat) (v : Value) (l : List DOp) (vs : List Value) (hs : a.eval s = v) (hown : Win w B 37 4 v l.length (flatOps vs l)) (A : Option Addr) (c : Nat) (d : Value) (p : DOp) (h1 : d.oneCell' = true) (hx : a.eval x = .slice A 1 c) (hA : Sl w A (opCells d p))
    (hb : l.length ≤ 1099511627776) (hB : B ≤ w.heap.size)
    (h : ∀ v' w', Win w' B 37 4 v' (l.length + 1) (flatOps vs l ++ opCells d p) → Kp (fun k => v.ownBlock = some k) w w' → (v'.ownBlock = v.ownBlock ∨ v'.ownBlock = some w.heap.size) → wpList Try.prog ops Q rest (a.put o.dst v') w') : wpList Try.prog ops Q (o :: rest) a w :=
  wpList_appW hgd s x 35 35 ho B 37 _ 4 48 Try.underlying35 Try.info37 rfl (by decide) v l.length (flatOps vs l) hs hown (.slice A 1 c) 1 (opCells d p) hx (srcOf Try.underlying35 (by decide) (by simp [opCells]) hA (fun u hu => by simp [opCells] at hu; rcases hu with rfl | rfl | rfl | rfl <;> first | rfl | exact h1)) (by omega) (by unfold maxLen; omega) hB h
def ParseOut (d : List UInt8) (w : World) (e : Ending) (w' : World) : Prop :=
  ∃ v, e = .returned (.tuple #[.int .i64 (deltaR d).1, .int .i64 (deltaR d).2.1, v, .int .i64 (deltaR d).2.2.2]) ∧ OpsW w' w.heap.size 37 v (deltaR d).2.2.1 ∧ Below w.heap.size w w'
theorem sizesR_ok {d : List UInt8} (h : (sizesR d).2.2.2 = 0) : (sizesR d).2.2.1 ≤ d.length ∧ (sizesR d).1 < 9223372036854775808 ∧ (sizesR d).2.1 < 9223372036854775808 := by
  unfold sizesR at *
  rcases h1 : size d with ⟨b, n, e⟩
  rw [h1] at h
  simp only at *
  by_cases he : e = 0
  · subst he
    obtain ⟨hn, _, hb⟩ := size_ok h1
    simp only [if_true] at *
    rcases h2 : size (d.drop n) with ⟨o, m, f⟩
    rw [h2] at h
    simp only at *
    by_cases hf : f = 0
    · subst hf
      obtain ⟨hm, _, ho⟩ := size_ok h2
      rw [List.length_drop] at hm
      simp only [if_true]
      omega
    · rw [if_neg hf] at h; simp at h; exact absurd h hf
  · rw [if_neg he] at h; simp at h; exact absurd h he
theorem parse_any (A : Option Addr) (c : Nat) (d : List UInt8) (w : World) (hl : d.length ≤ 1099511627776) (hc : d.length ≤ c) (hA : Bs w A d) :
    Calls Try.prog 29 #[.slice A d.length c] w (ParseOut d w) := by
  have k1 := sizes_any A c d w hl hc hA
  by_cases he : (sizesR d).2.2.2 = 0
  · obtain ⟨hn, hb, ho⟩ := sizesR_ok he
    have hR : deltaR d = (match parseR (d.drop (sizesR d).2.2.1) with | .error e => (0, 0, [], e) | .ok l => ((sizesR d).1, (sizesR d).2.1, l, 0)) := by unfold deltaR; rw [if_pos he]; rfl
    rw [he] at k1
    obtain ⟨b, hbe⟩ : ∃ b, b = (sizesR d).1 := ⟨_, rfl⟩
    obtain ⟨o, hoe⟩ : ∃ o, o = (sizesR d).2.1 := ⟨_, rfl⟩
    obtain ⟨n, hne⟩ : ∃ n, n = (sizesR d).2.2.1 := ⟨_, rfl⟩
    rw [← hbe, ← hoe, ← hne] at k1 hR
    rw [← hbe] at hb
    rw [← hoe] at ho
    rw [← hne] at hn
    have hD := Bs.cut hA n c hc
    have hs := slice_from22 A d.length c n hn
    have HR := Lib.hid hR
    clear hR he hbe hoe hne
    go_enter Try.func29, Try.ntmps29
    go_wp2_with (go_at_call 48; (with_reducible refine k1.mono ?_; rintro e w' ⟨rfl, rfl⟩))
    clear k1 hs
    go_loopw [0, 2, 3, 4] (fun t0 t2 t3 t4 wr => ∃ (A1 : Option Addr) (c1 : Nat) (r : List UInt8) (acc : List DOp), t0 = .slice A1 r.length c1 ∧ t2 = .int .i64 b ∧ t3 = .int .i64 o ∧ r.length ≤ c1 ∧ Bs wr A1 r ∧ Bs w A1 r ∧ contR acc (parseR r) = parseR (d.drop n) ∧ acc.length + r.length ≤ d.length ∧
      OpsW wr w.heap.size 37 t4 acc ∧ Below w.heap.size w wr) (fun t0 _ _ _ _ => match t0 with | .slice _ k _ => k | _ => 0)
    case atStart => exact ⟨cutA A c n 1, c - n, d.drop n, [], by simp, rfl, rfl, by simp; omega, hD, hD, by cases parseR (d.drop n) <;> simp [contR], by simp, OpsW.nil _ _ _, Below.refl _ _⟩
    case round =>
      obtain ⟨A1, c1, r, acc, rfl, rfl, rfl, hrc, hr, hrw, hpar, hlen, hops, hb⟩ := hrel
      have HP := Lib.hid hpar; clear hpar
      have HO := Lib.hid hops; clear hops
      by_cases hr0 : 0 < r.length
      · cases hst : stepR r with
        | error f =>
          have k2 := step_err A1 c1 r wr (by omega) hr0 hrc hr hst
          have hpe := parseR_bad (by intro e; subst e; simp at hr0) hst
          have HPE := Lib.hid hpe; have HST := Lib.hid hst; clear hpe hst
          have hf0 : ((f : Int) != 0) = true := by simp [stepR_err HST.out]
          go_wp2_with (go_at_call 49; (with_reducible refine k2.mono ?_; rintro e w1 ⟨rfl, hb1⟩))
          refine bodyPost_ret (results_tmp4 rfl _ _ _) rfl ?_
          have hR2 : deltaR d = (0, 0, [], f) := by rw [HR.out, ← HP.out, contR_err HPE.out]
          exact ⟨.slice none 0 0, by rw [hR2]; rfl, by rw [hR2]; exact OpsW.nil _ _ _, (hb.trans (hb1.mono hb.size)).alloc (Nat.le_trans hb.size hb1.size) _⟩
        | ok p =>
          obtain ⟨p, r'⟩ := p
          have k2 := step_ok A1 c1 r wr (by omega) hr0 hrc hr hst
          have hrl := stepR_len hst
          have hcs := contR_step (acc := acc) hst
          have hdr := stepR_drop hst
          have HCS := Lib.hid hcs; have HDR := Lib.hid hdr; have HST := Lib.hid hst; clear hcs hst hdr
          obtain ⟨vs, hvs, hwin, hdata⟩ := HO.out
          have HV := Lib.hid hvs; have HW := Lib.hid hwin; have HDT := Lib.hid hdata
          clear hvs hwin hdata
          have hsl := slice_from22 A1 r.length c1 (r.length - r'.length) (by omega)
          go_wp2_with (first
            | (go_at_call 49; (with_reducible refine k2.mono ?_); rintro e w1 ⟨v1, rfl, hv1, hb1⟩; obtain ⟨A3, c3, rfl, _, _, _⟩ := WinB.reads hv1; have hB1 : Below w.heap.size w w1 := hb.trans (hb1.mono hb.size))
            | (at_builtin; refine appW35 rfl (.tmp 35) (.tmp 37) rfl w.heap.size _ acc vs rfl (Win.below (Win.below HW.out hb1) (((Below.refl _ _).alloc (Nat.le_refl _) _).alloc (by simp) _)) (some ⟨w1.heap.size + 1, 0, none⟩) 1 (.slice A3 p.data.length c3) p rfl rfl (Sl.of_block (heap_alloc2_new _ _ _) (fun j v hj => by simpa [opCells] using hj)) (by omega) (Nat.le_trans hB1.size (by simp; omega)) ?_; intro v5 w5 hw5 hk5 _))
          go_roundw
          case rel =>
            have hb4 : Below w1.heap.size w1 ((w1.alloc (.cells #[.bool p.cp, .int .i64 p.fr, .int .i64 p.n, .slice A3 p.data.length c3] 37)).alloc (.cells #[.bool p.cp, .int .i64 p.fr, .int .i64 p.n, .slice A3 p.data.length c3] 37)) := ((Below.refl _ _).alloc (Nat.le_refl _) _).alloc (by simp) _
            have hwin4 := Win.below (Win.below HW.out hb1) hb4
            have hB4 := hB1.trans (hb4.mono hB1.size)
            have hB5 : Below w.heap.size w w5 := hB4.trans (hk5.toBelow hB4.size (fun k hk e => absurd (Win.block hwin4 k e).1 (by omega)))
            have hrr : Bs w (cutA A1 c1 (r.length - r'.length) 1) r' := by
              have := Bs.cut hrw (r.length - r'.length) c1 hrc
              rwa [← HDR.out] at this
            refine ⟨_, _, r', acc ++ [p], by rw [show r.length - (r.length - r'.length) = r'.length by omega], rfl, rfl, by omega, hrr.below hB5, hrr, by rw [← HCS.out]; exact HP.out, by rw [List.length_append]; simp; omega, ?_, hB5⟩
            exact OpsW.snoc (by decide) HV.out hwin4 (fun j d' o' hd' ho' => ((HDT.out j d' o' hd' ho').below hb1).below hb4) (Win.base (Win.below hv1 hb4) hb.size) hw5 hk5
          case measure => simp; omega
      · have hr1 : r = [] := List.eq_nil_of_length_eq_zero (by omega)
        have hpe : parseR (d.drop n) = .ok acc := by rw [← HP.out, hr1, parseR_nil]; simp [contR]
        have hR2 : deltaR d = (b, o, acc, 0) := by rw [HR.out, hpe]
        have HR2 := Lib.hid hR2; clear hR2 hpe hr1
        obtain ⟨A4, c4, rfl, hc4, _⟩ := OpsW.form HO.out rfl
        have kc := clip35 A4 acc.length c4 hc4 wr
        go_wp2_with (go_at_call 50; (with_reducible refine kc.mono ?_); rintro e w' ⟨rfl, rfl⟩)
        refine bodyPost_ret (results_tmp4 rfl _ _ _) rfl ?_
        exact ⟨.slice A4 acc.length acc.length, by rw [HR2.out]; rfl, by rw [HR2.out]; exact OpsW.clip HO.out rfl, hb⟩
  · have hR : deltaR d = (0, 0, [], (sizesR d).2.2.2) := by unfold deltaR; rw [if_neg he]
    have hs0 : (sizesR d).1 = 0 ∧ (sizesR d).2.1 = 0 ∧ (sizesR d).2.2.1 = 0 := by
      unfold sizesR at *
      split
      · split
        · rename_i h1 h2; rw [if_pos h1, if_pos h2] at he; exact absurd rfl he
        · exact ⟨rfl, rfl, rfl⟩
      · exact ⟨rfl, rfl, rfl⟩
    rw [hs0.1, hs0.2.1, hs0.2.2] at k1
    obtain ⟨f, hfe⟩ : ∃ f, f = (sizesR d).2.2.2 := ⟨_, rfl⟩
    rw [← hfe] at k1 hR he
    have hf0 : ((f : Int) != 0) = true := by simp [he]
    have HR := Lib.hid hR; clear hR hs0 he hfe
    go_enter Try.func29, Try.ntmps29
    go_wp2_with (go_at_call 48; (with_reducible refine k1.mono ?_); rintro e w' ⟨rfl, rfl⟩)
    refine bodyPost_ret (results_tmp4 rfl _ _ _) rfl ?_
    exact ⟨.slice none 0 0, by rw [HR.out]; rfl, by rw [HR.out]; exact OpsW.nil _ _ _, Below.refl _ _⟩
end Go.Proofs.Ytpfjkappgdpfbaa
