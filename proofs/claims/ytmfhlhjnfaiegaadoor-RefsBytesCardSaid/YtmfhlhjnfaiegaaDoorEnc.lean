/- refs.sum, refs.Encode: the rows' text and its last line, or why not. Conditions: twenty bytes each, at most 256 rows, names of at most 2^30 bytes. -/
import Derived.Test.YtmfhlhjnfaiegaaDoorTxt
import Derived.Lib.ConvBytes
namespace Go.Proofs.YtmfhlhjnfaiegaaDoor
open Go.RowKit
set_option maxRecDepth 100000
set_option maxHeartbeats 1000000
set_option linter.unusedVariables false
theorem bytes_new (s : List UInt8) (w : World) : ∃ W' c, (convert 9 23 (.string (bstr s))).run Tryd.prog w = .ok (.slice (some ⟨w.heap.size, 0, none⟩) s.length c) W' ∧ Below w.heap.size w W' ∧
    Bs W' (some ⟨w.heap.size, 0, none⟩) s := by
  have hr := Lib.run_convert_string_bytes (P := Tryd.prog) w 9 23 5 (bstr s) Tryd.underlying9 Tryd.underlying23 Tryd.underlying5
  have hsz : (bstr s).size = s.length := by show s.toArray.size = _; simp
  have hnew := Lib.bytesWorld_at_new w 5 (bstr s)
  have hb : Below w.heap.size w (Lib.bytesWorld w 5 (bstr s)) := ⟨rfl, rfl, rfl, by rw [Lib.bytesWorld_size]; omega, fun i hi => Lib.bytesWorld_at_old w 5 (bstr s) i hi⟩
  have hcs : ∀ j v, (bvs s)[j]? = some v → (Lib.bytesCells w 5 (bstr s))[0 + j]? = some v := fun j v hj => by
    have hlt : j < s.length := by
      rcases Nat.lt_or_ge j s.length with h | h
      · exact h
      · rw [List.getElem?_eq_none (by simpa using h)] at hj; cases hj
    simp only [bvs, bv, List.getElem?_map, List.getElem?_eq_getElem hlt, Option.map_some] at hj
    injection hj with hj
    subst hj
    simp [Lib.bytesCells, Array.getElem?_append, hlt]
  rw [hsz] at hr
  exact ⟨_, _, hr, hb, Sl.of_block hnew hcs⟩
theorem line_sum (t : List UInt8) : (⟨#[115, 117, 109, 32]⟩ ++ bstr (hexs (sha1 t)) ++ ⟨#[10]⟩ : ByteArray) = bstr (sumB t) := by
  apply ByteArray.ext
  simp [sumB]
theorem last_any (t : List UInt8) (ht : t.length ≤ 1099511627000) (w : World) :
    Calls Tryd.prog 20 #[.string (bstr t)] w fun e w' => e = .returned (.string (bstr (sumB t))) ∧ Below w.heap.size w w' := by
  obtain ⟨W1, c, hcv, hb1, hs1⟩ := bytes_new t w
  have k1 := sum_any _ c t ht W1 hs1
  have h20 := sha1_len t
  have HEQ := Lib.hid (line_sum t)
  have hl : (hexs (sha1 t)).length = 40 := by rw [hexs_len, h20]
  have HB1 := Lib.hid hb1
  clear ht hs1 hb1
  go_enter Tryd.func20, Tryd.ntmps20
  go_wp2_with (first
    | (go_at_call 37; (with_reducible refine k1.mono ?_); rintro e w2 ⟨rfl, hb2⟩)
    | (go_at_call 35; (with_reducible refine (hex_any (sha1 t) _ h20).mono ?_); rintro e w3 ⟨rfl, hb3⟩))
  go_ret
  exact ⟨by rw [← HEQ.out]; rfl, (HB1.out.trans (hb2.mono HB1.out.size)).trans (hb3.mono (HB1.out.trans (hb2.mono HB1.out.size)).size)⟩
theorem said_eq (l : List Rf) : (bstr (textB l) ++ bstr (sumB (textB l)) : ByteArray) = bstr (saidB l) := by
  apply ByteArray.ext
  simp [saidB]
theorem enc_any (l : List Rf) (h20 : Rf20 l) (hn : l.length ≤ 256) (hs : ∀ r ∈ l, r.1.length ≤ 1073741824) (A : Option Addr) (c : Nat) (w : World) (hg : GOk w) (hA : Sl w A (rfc l)) :
    Calls Tryd.prog 7 #[.slice A l.length c] w fun e w' => (∃ A' c', e = .returned (.tuple #[.slice A' (encI l).1.length c', .int .i64 ((encI l).2 : Int)]) ∧ Bs w' A' (encI l).1) ∧ Below w.heap.size w w' := by
  have kr := right_any l h20 hn hs A c w hg hA
  have htl := text_len l h20 hs
  have htl2 : (textB l).length ≤ 256 * 1073741866 := Nat.le_trans htl (Nat.mul_le_mul_right _ hn)
  have kt := fun w' (h : Below w.heap.size w w') => text_any l h20 hn hs A c w' (hA.below h)
  have ks := last_any (textB l) (by omega)
  have HT := Lib.hid htl2; have HEQ := Lib.hid (said_eq l)
  have HSL : Hid ((sumB (textB l)).length = 45) := Lib.hid (by simp [sumB, hexs_len, sha1_len])
  obtain ⟨n, hnn⟩ : ∃ n, n = l.length := ⟨_, rfl⟩
  rw [← hnn] at hn kr kt ⊢
  have HN := Lib.hid hnn
  clear htl htl2 h20 hs hnn hA hg
  cases hr : rightB l with
  | false =>
    rw [hr] at kr
    have HE' := Lib.hid (show encI l = ([], 1) by rw [encI, hr]; rfl)
    clear hr
    go_enter Tryd.func7, Tryd.ntmps7
    go_wp2_with (go_at_call 18; (with_reducible refine kr.mono ?_); rintro e w1 ⟨rfl, hb1⟩)
    go_ret2
    exact ⟨⟨none, 0, by rw [HE'.out]; rfl, by rw [HE'.out]; exact Sl.nil _ _⟩, hb1⟩
  | true =>
    rw [hr] at kr
    by_cases h64 : 64 < n
    · have HE' := Lib.hid (show encI l = ([], 5) by rw [encI, hr, if_pos rfl, if_pos (by rw [← HN.out]; exact h64)])
      have hd : decide ((64 : Int) < (n : Int)) = true := decide_eq_true (by omega)
      clear hr
      go_enter Tryd.func7, Tryd.ntmps7
      go_wp2_with (go_at_call 18; (with_reducible refine kr.mono ?_); rintro e w1 ⟨rfl, hb1⟩)
      go_ret2
      exact ⟨⟨none, 0, by rw [HE'.out]; rfl, by rw [HE'.out]; exact Sl.nil _ _⟩, hb1⟩
    · have HE' := Lib.hid (show encI l = (saidB l, 0) by rw [encI, hr, if_pos rfl, if_neg (by rw [← HN.out]; exact h64)])
      have hd : decide ((64 : Int) < (n : Int)) = false := decide_eq_false (by omega)
      have hadd : ¬ 9223372036854775807 < (textB l).length + (sumB (textB l)).length := by have := HT.out; have := HSL.out; omega
      clear hr
      go_enter Tryd.func7, Tryd.ntmps7
      go_wp2_with (first
        | (go_at_call 18; (with_reducible refine kr.mono ?_); rintro e w1 ⟨rfl, hb1⟩)
        | (go_at_call 19; (with_reducible refine (kt _ hb1).mono ?_); rintro e w2 ⟨rfl, hb2⟩)
        | (go_at_call 20; (with_reducible refine (ks _).mono ?_); rintro e w3 ⟨rfl, hb3⟩
           obtain ⟨W4, c4, hcv, hb4, hs4⟩ := bytes_new (saidB l) w3
           rw [← HEQ.out] at hcv))
      go_ret2
      have b2 := hb1.trans (hb2.mono hb1.size)
      have b3 := b2.trans (hb3.mono b2.size)
      have b4 := b3.trans (hb4.mono b3.size)
      exact ⟨⟨_, c4, by rw [HE'.out]; rfl, by rw [HE'.out]; exact hs4⟩, b4⟩
end Go.Proofs.YtmfhlhjnfaiegaaDoor
