/- The law's words of and same. No condition but on lengths. -/
import Derived.Test.YtpfjkappgdpfbaaDelO
import Derived.Laws.BytesArg
namespace Go.Proofs.Ytpfjkappgdpfbaa
open Go.RowKit
set_option maxRecDepth 100000
set_option maxHeartbeats 4000000
/-- a row of the call's own whose data lie where they lay in an elder world -/
def OpsV (w0 w : World) (B T : Nat) (v : Value) (l : List DOp) : Prop :=
  ∃ vs : List Value, vs.length = l.length ∧ Win w B T 4 v l.length (flatOps vs l) ∧ ∀ (j : Nat) (d : Value) (o : DOp), vs[j]? = some d → l[j]? = some o → ∃ Ad cd, d = .slice Ad o.data.length cd ∧ o.data.length ≤ cd ∧ cd ≤ maxLen ∧ Bs w0 Ad o.data
theorem OpsV.reads {w0 w : World} {B T : Nat} {v : Value} {l : List DOp} (h : OpsV w0 w B T v l) (hb : Below w0.heap.size w0 w) : ∃ A c, v = .slice A l.length c ∧ l.length ≤ c ∧ c ≤ maxLen ∧ OpsR w A l := by
  obtain ⟨vs, h1, h2, h3⟩ := h
  obtain ⟨A, c, he, h4, h5, h6⟩ := Win.reads h2
  refine ⟨A, c, he, h4, h5, fun k o ho => ?_⟩
  have hk : k < vs.length := by
    rcases Nat.lt_or_ge k vs.length with h | h
    · exact h
    · rw [List.getElem?_eq_none (by omega)] at ho; cases ho
  obtain ⟨Ad, cd, hd, h7, h8, h9⟩ := h3 k vs[k] o (by simp [hk]) ho
  obtain ⟨ad, e, hs⟩ := Sl.part h6 (k * 4) (opCells (.slice Ad o.data.length cd) o) (fun j v hj => by
    have hj4 : j < 4 := by
      rcases Nat.lt_or_ge j 4 with h | h
      · exact h
      · rw [List.getElem?_eq_none (by simp [opCells]; omega)] at hj; cases hj
    rw [flatOps_at vs l h1 k vs[k] o (by simp [hk]) ho j hj4, hd]; exact hj) (by simp [opCells])
  exact ⟨ad, Ad, cd, e, hs, h7, h8, h9.below hb⟩
theorem OpsV.snoc {w0 w' : World} {B T : Nat} {v' : Value} {l : List DOp} {o : DOp} {vs : List Value} {Ad : Option Addr} {cd : Nat} (h1 : vs.length = l.length)
    (h3 : ∀ (j : Nat) (d : Value) (o : DOp), vs[j]? = some d → l[j]? = some o → ∃ Ad cd, d = .slice Ad o.data.length cd ∧ o.data.length ≤ cd ∧ cd ≤ maxLen ∧ Bs w0 Ad o.data) (hcd : o.data.length ≤ cd) (hm : cd ≤ maxLen) (hd : Bs w0 Ad o.data)
    (hv : Win w' B T 4 v' (l.length + 1) (flatOps vs l ++ opCells (.slice Ad o.data.length cd) o)) : OpsV w0 w' B T v' (l ++ [o]) := by
  refine ⟨vs ++ [.slice Ad o.data.length cd], by simp [h1], by rw [flatOps_snoc vs l h1]; simpa using hv, fun j d' o' hd' ho' => ?_⟩
  rcases Nat.lt_or_ge j l.length with hj | hj
  · rw [List.getElem?_append_left (by omega)] at hd' ho'
    exact h3 j d' o' hd' ho'
  · have hj2 : j = l.length := by
      rcases Nat.lt_or_ge l.length j with h | h
      · rw [List.getElem?_eq_none (by simp; omega)] at ho'; cases ho'
      · omega
    rw [List.getElem?_append_right (by omega)] at hd' ho'
    rw [show j - vs.length = 0 by omega] at hd'
    rw [show j - l.length = 0 by omega] at ho'
    simp at hd' ho'
    subst hd' ho'
    exact ⟨_, _, rfl, hcd, hm, hd⟩
theorem of_any (A : Option Addr) (c : Nat) (l : List DOp) (w : World) (hl : l.length ≤ 1099511627776) (hA : OpsR w A l) :
    Calls Try.prog 28 #[.slice A l.length c] w fun e w' => ∃ A' c', e = .returned (.slice A' l.length c') ∧ l.length ≤ c' ∧ c' ≤ maxLen ∧ OpsR w' A' l ∧ Below w.heap.size w w' := by
  go_enter Try.func28, Try.ntmps28
  go_wp2
  go_loopw [3, 4] (fun t3 t4 wr => ∃ k : Nat, t4 = .int .i64 k ∧ k ≤ l.length ∧ OpsV w wr w.heap.size 56 t3 (l.take k) ∧ Below w.heap.size w wr) (fun _ t4 _ => l.length - (intOf t4).toNat)
  case atStart => exact ⟨0, rfl, by omega, ⟨[], rfl, Win.nil _ _ _ _, fun j d o h => by simp at h⟩, Below.refl _ _⟩
  case round =>
    obtain ⟨k, rfl, hk, hops, hb⟩ := hrel
    by_cases hlt : k < l.length
    · obtain ⟨ad, Ad, cd, rfl, hcells, hcd, hmd, hdata⟩ := hA k l[k] (by simp [hlt])
      have hcl := Lib.hid (hcells.below hb); have HD := Lib.hid hdata; clear hcells hdata
      obtain ⟨vs, hvs, hwin, hds⟩ := hops
      have htk : (l.take k).length = k := by simp; omega
      have HV := Lib.hid hvs; have HW := Lib.hid hwin; have HDT := Lib.hid hds; have HTK := Lib.hid htk
      clear hvs hwin hds htk
      go_wp2_with (first
        | (refine wpList_load_agg rfl 37 (.tmp 14) rfl (ad.add (k * 4)) rfl (opCells (.slice Ad l[k].data.length cd) l[k]) _ hcl.out Try.underlying37 rfl (by kernel_rfl) ?_; rw [opCells_at])
        | (at_builtin; refine appW43 rfl (.tmp 11) (.tmp 16) rfl w.heap.size _ (l.take k) vs rfl (Win.below HW.out ((Below.refl _ _).alloc (Nat.le_refl _) _)) (some ⟨wr.heap.size, 0, none⟩) 1 (.slice Ad l[k].data.length cd) l[k] rfl rfl (Sl.of_block (heap_alloc_new _ _) (fun j v hj => by simpa [opCells] using hj)) (by have := HTK.out; omega) (Nat.le_trans hb.size (by simp)) ?_; intro v6 w6 hw6 hk6 _))
      have hb6 := hb.alloc hb.size (.cells #[.bool l[k].cp, .int .i64 l[k].fr, .int .i64 l[k].n, .slice Ad l[k].data.length cd] 56)
      go_roundw
      case rel =>
        refine ⟨k + 1, by go_num, by omega, ?_, hb6.trans (hk6.toBelow hb6.size (fun g hg e => absurd (Win.block HW.out g e).1 (by omega)))⟩
        rw [List.take_succ_eq_append_getElem hlt]
        exact OpsV.snoc HV.out HDT.out hcd hmd HD.out hw6
      case measure => simp [intOf]; omega
    · obtain rfl : k = l.length := by omega
      rw [List.take_length] at hops
      obtain ⟨A', c', rfl, h1, h2, h3⟩ := OpsV.reads hops hb
      have HO := Lib.hid h3; clear h3 hops
      go_wp2
      go_ret
      exact ⟨A', c', rfl, h1, h2, HO.out, hb⟩
abbrev bstr (l : List UInt8) : ByteArray := ⟨l.toArray⟩
theorem bstr_inj {a b : List UInt8} (h : bstr a = bstr b) : a = b := by
  have := congrArg (fun x : ByteArray => x.data.toList) h
  simpa using this
theorem bstr_eq {a b : List UInt8} (h : a = b) : (bstr a == bstr b) = true := by
  subst h
  show (a.toArray == a.toArray) = true
  simp
theorem bstr_ne {a b : List UInt8} (h : a ≠ b) : (bstr a == bstr b) = false := by
  show (a.toArray == b.toArray) = false
  simp [h]
theorem push_all : ∀ (l : List UInt8) (s : ByteArray), (l.map fun c => (c.toNat : Int)).foldl (fun r n => r.push (UInt8.ofNat n.toNat)) s = ⟨s.data ++ l.toArray⟩
  | [], s => by simp
  | c :: l, s => by
    rw [List.map_cons, List.foldl_cons, push_all l]
    simp [ByteArray.push]
theorem conv22 {w : World} {A : Option Addr} {l : List UInt8} {c n : Nat} (h : Bs w A l) (hn : n = l.length) : (convert 22 9 (.slice A n c)).run Try.prog w = .ok (.string (bstr l)) w := by
  subst hn
  cases A with
  | none =>
    have hl : l = [] := by
      cases l with
      | nil => rfl
      | cons u l => obtain ⟨ad, e, _⟩ := h 0 _ rfl; cases e
    subst hl
    exact run_convert_bytes_nil w 22 5 Try.underlying22 Try.underlying5 _ _ 9 Try.underlying9
  | some ad =>
    have hld : (loadCells ad l.length).run Try.prog w = .ok ((l.map fun c => (c.toNat : Int)).map (Value.int .u8)).toArray w := by
      have := run_loadCells_list (P := Try.prog) w ad (bvs l) (fun j v hj => by obtain ⟨ad', e, hc⟩ := h j v hj; injection e with e; subst e; exact hc)
      rw [show ((l.map fun c => (c.toNat : Int)).map (Value.int .u8)) = bvs l from by simp only [bvs, List.map_map]; rfl]
      simpa using this
    rw [run_convert_bytes_string w 22 9 5 _ _ _ Try.underlying22 Try.underlying5 Try.underlying9, run_bytesToString w _ _ _ _ hld, push_all]
    simp [ByteArray.empty, ByteArray.emptyWithCapacity]
    rfl
theorem same_any (A : Option Addr) (c : Nat) (l : List DOp) (A' : Option Addr) (c' : Nat) (m : List DOp) (w : World) (hl : l.length ≤ 1099511627776) (hm : m.length ≤ 1099511627776) (hA : OpsR w A l) (hA' : OpsR w A' m) :
    Calls Try.prog 30 #[.slice A l.length c, .slice A' m.length c'] w fun e w' => e = .returned (.bool (decide (l = m))) ∧ Below w.heap.size w w' := by
  by_cases hlen : l.length = m.length
  · have hq : ((l.length : Int) != (m.length : Int)) = false := by simp [hlen]
    go_enter Try.func30, Try.ntmps30
    go_wp2
    go_loopw [5] (fun t5 wr => ∃ k : Nat, t5 = .int .i64 k ∧ k ≤ l.length ∧ l.take k = m.take k ∧ Below w.heap.size w wr) (fun t5 _ => l.length - (intOf t5).toNat)
    case atStart => exact ⟨0, rfl, by omega, rfl, Below.refl _ _⟩
    case round =>
      obtain ⟨k, rfl, hk, htk, hb⟩ := hrel
      have HTK := Lib.hid htk; clear htk
      by_cases hlt : k < l.length
      · have hlt2 : k < m.length := by omega
        obtain ⟨ad, Ad, cd, rfl, hcells, hcd, hmd, hdata⟩ := (hA.below hb) k l[k] (by simp [hlt])
        obtain ⟨ad', Ad', cd', rfl, hcells', hcd', hmd', hdata'⟩ := (hA'.below hb) k m[k] (by simp [hlt2])
        obtain ⟨x, hx⟩ : ∃ x, x = l[k] := ⟨_, rfl⟩
        obtain ⟨y, hy⟩ : ∃ y, y = m[k] := ⟨_, rfl⟩
        rw [← hx] at hcells hcd hdata
        rw [← hy] at hcells' hcd' hdata'
        have HX := Lib.hid hx; have HY := Lib.hid hy; clear hx hy
        have f3 := Sl.field hcells 3 _ (by decide) rfl
        have f2 := Sl.field hcells 2 _ (by decide) rfl
        have f1 := Sl.field hcells 1 _ (by decide) rfl
        have f0 := Sl.field0 hcells _ rfl
        have g3 := Sl.field hcells' 3 _ (by decide) rfl
        have g2 := Sl.field hcells' 2 _ (by decide) rfl
        have g1 := Sl.field hcells' 1 _ (by decide) rfl
        have g0 := Sl.field0 hcells' _ rfl
        clear hcells hcells'
        have fin : x = y → l.take (k + 1) = m.take (k + 1) := fun h => by
          rw [List.take_succ_eq_append_getElem hlt, List.take_succ_eq_append_getElem hlt2, HTK.out, ← HX.out, ← HY.out, h]
        have bad : x ≠ y → decide (l = m) = false := fun h => decide_eq_false (fun e => h (by rw [HX.out, HY.out]; subst e; rfl))
        have FIN := Lib.hid fin; have BAD := Lib.hid bad; clear fin bad
        have d1 := Lib.hid hdata; have d2 := Lib.hid hdata'; clear hdata hdata'
        by_cases e0 : x.cp = y.cp
        · have q0 : (x.cp == y.cp) = true := by simp [e0]
          have E0 := Lib.hid e0; clear e0
          by_cases e1 : x.fr = y.fr
          · have q1 : (x.fr != y.fr) = false := by simp [e1]
            have E1 := Lib.hid e1; clear e1
            by_cases e2 : x.n = y.n
            · have q2 : (x.n != y.n) = false := by simp [e2]
              have E2 := Lib.hid e2; clear e2
              have c1 : ∀ n, (convert 22 9 (.slice Ad x.data.length cd)).run Try.prog (wr.drewN n) = .ok (.string (bstr x.data)) (wr.drewN n) := fun n => conv22 (fun j v hj => d1.out j v hj) rfl
              have c2 : ∀ n, (convert 22 9 (.slice Ad' y.data.length cd')).run Try.prog (wr.drewN n) = .ok (.string (bstr y.data)) (wr.drewN n) := fun n => conv22 (fun j v hj => d2.out j v hj) rfl
              by_cases e3 : x.data = y.data
              · have q3 : (x.data == y.data) = true := by simp [e3]
                have E3 := Lib.hid e3; clear e3
                go_wp2
                go_quiet (fail)
                go_wp2
                go_roundw
                case rel => exact ⟨k + 1, by go_num, by omega, FIN.out (by have := E0.out; have := E1.out; have := E2.out; have := E3.out; cases x; cases y; simp_all), Below.drewN hb _⟩
                case measure => simp [intOf]; omega
              · have q3 : (x.data == y.data) = false := by simp [e3]
                have E3 := Lib.hid e3; clear e3
                go_wp2
                go_quiet (fail)
                go_wp2
                go_ret
                exact ⟨by rw [BAD.out (fun h => E3.out (by rw [h]))]; rfl, Below.drewN hb _⟩
            · have q2 : (x.n != y.n) = true := by simp [e2]
              have E2 := Lib.hid e2; clear e2
              go_wp2
              go_quiet (fail)
              go_wp2
              go_ret
              exact ⟨by rw [BAD.out (fun h => E2.out (by rw [h]))]; rfl, Below.drewN hb _⟩
          · have q1 : (x.fr != y.fr) = true := by simp [e1]
            have E1 := Lib.hid e1; clear e1
            go_wp2
            go_quiet (fail)
            go_wp2
            go_ret
            exact ⟨by rw [BAD.out (fun h => E1.out (by rw [h]))]; rfl, Below.drewN hb _⟩
        · have q0 : (x.cp == y.cp) = false := by simp [e0]
          have E0 := Lib.hid e0; clear e0
          go_wp2
          go_quiet (fail)
          go_wp2
          go_ret
          exact ⟨by rw [BAD.out (fun h => E0.out (by rw [h]))]; rfl, Below.drewN hb _⟩
      · obtain rfl : k = l.length := by omega
        have hT := HTK.out
        rw [List.take_length, hlen, List.take_length] at hT
        have hf : decide (l = m) = true := decide_eq_true hT
        have HF := Lib.hid hf; clear hf hT
        go_wp2
        go_ret
        exact ⟨by rw [HF.out]; rfl, hb⟩
  · have hq : ((l.length : Int) != (m.length : Int)) = true := by simp; omega
    have hf : decide (l = m) = false := decide_eq_false (fun h => hlen (by rw [h]))
    have HF := Lib.hid hf; clear hf
    go_enter Try.func30, Try.ntmps30
    go_wp2
    go_ret
    exact ⟨by rw [HF.out]; rfl, Below.refl _ _⟩
end Go.Proofs.Ytpfjkappgdpfbaa
