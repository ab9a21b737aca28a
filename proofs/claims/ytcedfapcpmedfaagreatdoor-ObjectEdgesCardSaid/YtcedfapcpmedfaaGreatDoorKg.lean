/- What the library's variables hold; Itoa; strings.Cut, bytes.Cut, IndexByte, CutPrefix over lists of bytes. Conditions: shorter than 2^30.
   Canon and ID, the program's: canonI, SHA-1 of it. Conditions: at most 2^40 bytes; what the library's variables hold.
   object.ID: SHA-1 of the canonical bytes. Conditions: at most 2^30 bytes; what the library's variables hold.
   The reference's decimal. Condition: the number is at most 2^30.
   Slices of the call's own whose block has a frozen mark beyond their capacity (bytes out of a text): append to them. No condition.
   The reference's Canon and ID: canonI, SHA-1 of it. Condition: at most 2^30 bytes.
   object.Open: openI. Conditions: at most 2^30 bytes; what the library's variables hold.
   object.text: textI. Condition: shorter than 2^30.
   Entries on memory; Order's key. Conditions: twenty bytes each, names of at most 2^30 bytes.
   cmp.Compare of two texts. No condition.
   object.Order: the keys' order. Conditions: twenty bytes each, names of at most 2^30 bytes.
   object.whole: bytes, if they are not too many. Condition: shorter than 2^30.
   The methods of lines: nextI and so on. Conditions: at most 2^30 bytes; what the library's variables hold.
   strings.Builder: what is written behind a builder of the call's own. Condition: at most 2^47 bytes.
   The frame of a row that lists variables, the world's shape handed on: what the library's variables hold. No condition. -/
import Derived.Test.YtcedfapcpmedfaaGreatDoorKf
import Derived.Test.YtcedfapcpmedfaaGreatDoorShelf
import Derived.Lib.AppendIntMem
import Derived.Test.YtcedfapcpmedfaaGreatDoorKb
import Derived.Lib.ConvBytes
import Derived.Laws.Cover1
import Derived.Test.YtcedfapcpmedfaaGreatDoorKa
import Derived.Lib.Builder
import Derived.Test.YtcedfapcpmedfaaGreatDoorProg
import Derived.HandedShaped
import Derived.Shelf.Vars
import Derived.Lib.LaidTab
import Derived.LaidMore
namespace Go.Proofs.YtcedfapcpmedfaaGreatDoor
section
open Go.RowKit
set_option maxRecDepth 100000
set_option maxHeartbeats 1000000
set_option linter.unusedVariables false
/-- what the library's variables hold -/
structure Gb (w : World) : Prop where
  max : ∃ m, w.cell? ⟨0, 0, none⟩ = some (.int .i64 m)
  pow : Lib.TabIs Tryz.prog w "internal/strconv.uint64pow10" .u64 Lib.pow10Tab
theorem Gb.below {w w' : World} (h : Gb w) (hb : Below w.heap.size w w') : Gb w' := by
  obtain ⟨⟨m, hm⟩, hp⟩ := h
  exact ⟨⟨m, (hb.cell (World.block_lt_of_cell? w _ hm)).trans hm⟩, Lib.tabBelow_of_tabIs hp _ hb⟩
theorem itoa_nat (n : Nat) : Lib.itoa (n : Int) = Lib.decDigits n := by
  unfold Lib.itoa
  rw [if_neg (by omega)]
  simp
theorem itoa_any (n : Nat) (hn : n ≤ 9223372036854775807) (w : World) (hg : Gb w) : Calls Tryz.prog 53 #[.int .i64 (n : Int)] w fun e w' => e = .returned (.string (bstr (Lib.decDigits n))) ∧ Below w.heap.size w w' := by
  refine (Tryz.strconv_Itoa n (by omega) (by omega) w hg.pow).mono ?_
  rintro e w' ⟨rfl, k, os, rfl⟩
  exact ⟨by rw [itoa_nat], Lib.below_grow _ _ (Nat.le_refl _) _ _⟩
theorem drewN_below (w : World) (n : Nat) : Below w.heap.size w (w.drewN n) := ⟨rfl, rfl, rfl, Nat.le_refl _, fun _ _ => rfl⟩
theorem cutS_any (s p : List UInt8) (hs : s.length ≤ 1073741824) (w : World) (hg : Gb w) : Calls Tryz.prog 58 #[.string (bstr s), .string (bstr p)] w fun e w' =>
    e = .returned (.tuple #[.string (bstr (Lib.cut s p).1), .string (bstr (Lib.cut s p).2.1), .bool (Lib.cut s p).2.2]) ∧ Below w.heap.size w w' := by
  obtain ⟨m, hm⟩ := hg.max
  have hz := bstr_size s
  refine (Tryz.strings_Cut (bstr s) (bstr p) m w (by omega) hm).mono ?_
  rintro e w' ⟨rfl, n, rfl⟩
  exact ⟨rfl, drewN_below _ _⟩
theorem pref_any (s p : List UInt8) (w : World) : Calls Tryz.prog 110 #[.string (bstr s), .string (bstr p)] w fun e w' =>
    e = .returned (.tuple #[.string (bstr (Lib.trimPrefix s p)), .bool (Lib.hasPrefix s p)]) ∧ w = w' := by
  refine (Tryz.strings_CutPrefix (bstr s) (bstr p) w).mono ?_
  rintro e w' ⟨rfl, rfl⟩
  exact ⟨rfl, rfl⟩
theorem idxS_any (s : List UInt8) (c : UInt8) (w : World) : Calls Tryz.prog 111 #[.string (bstr s), .int .u8 (c.toNat : Int)] w fun e w' => e = .returned (.int .i64 (Lib.indexByte s c)) ∧ w = w' := by
  refine (Tryz.strings_IndexByte (bstr s) (c.toNat : Int) w).mono ?_
  rintro e w' ⟨rfl, rfl⟩
  refine ⟨?_, rfl⟩
  simp
/-- bytes.Cut at one sign -/
theorem cutB_any (s : List UInt8) (c : UInt8) (hs : s.length ≤ 1073741824) (A B : Option Addr) (n c1 c2 : Nat) (hn : n = s.length) (hcap : n ≤ c1) (h0 : A = none → c1 = 0) (w : World) (hg : Gb w) (hA : Bs w A s) (hB : Bs w B [c]) :
    Calls Tryz.prog 57 #[.slice A n c1, .slice B 1 c2] w fun e w' =>
      e = .returned (if (Lib.cut s [c]).2.2 = true then .tuple #[.slice A (Lib.cut s [c]).1.length c1, .slice (cutA A c1 ((Lib.cut s [c]).1.length + 1) 1) (Lib.cut s [c]).2.1.length (c1 - ((Lib.cut s [c]).1.length + 1)), .bool true]
        else .tuple #[.slice A n c1, .slice none 0 0, .bool false]) ∧ Below w.heap.size w w' := by
  subst hn
  obtain ⟨m, hm⟩ := hg.max
  have hi : ∀ (l : List UInt8) (D : Option Addr), Bs w D l → Lib.BytesIn w D l.length (l.map fun c => (c.toNat : Int)) := fun l D h => by
    cases l with
    | nil => exact Lib.BytesIn.nil _ _ _
    | cons x t =>
      obtain ⟨ad, rfl, _⟩ := h.at (j := 0) (by simp)
      refine Lib.BytesIn.of_cells (fun i hi => ?_)
      obtain ⟨ad', e, hc⟩ := h.at (j := i) hi
      injection e with e
      subst e
      rw [hc, List.getD_eq_getElem?_getD, List.getElem?_map, List.getElem?_eq_getElem hi]
      rfl
  have hr : ∀ l : List UInt8, ∀ x ∈ l.map (fun c => (c.toNat : Int)), 0 ≤ x ∧ x < 256 := fun l x hx => by
    obtain ⟨y, _, rfl⟩ := List.mem_map.1 hx
    have := y.toNat_lt
    omega
  have hb : ∀ l : List UInt8, Lib.bytesOf (l.map fun c => (c.toNat : Int)) = l := fun l => by
    unfold Lib.bytesOf
    rw [List.map_map]
    conv => rhs; rw [← List.map_id l]
    apply List.map_congr_left
    intro x _
    simp
  refine (Tryz.bytes_Cut_all A B s.length c1 1 c2 (s.map fun c => (c.toNat : Int)) ([c].map fun c => (c.toNat : Int)) m w (by simp) (by simp) (hr s) (hr [c]) (hi s A hA) (hi [c] B hB) h0 hcap (by omega) (by omega) hm).mono ?_
  rintro e w' ⟨rfl, q, rfl⟩
  refine ⟨?_, drewN_below _ _⟩
  rw [hb, hb, Lib.index_one]
  congr 1
  rcases two_ways c s with h | ⟨a, b, rfl, h⟩
  · rw [cut_no h, ib_none h]
    rfl
  · rw [cut_yes b h, ib_some b h]
    unfold Lib.cutV Lib.fromV cutA
    rw [if_pos (by omega)]
    simp only [Int.toNat_natCast, if_true, Nat.mul_one, List.length_append, List.length_cons]
    rw [show a.length + (b.length + 1) - (a.length + 1) = b.length by omega]
end
section
open Go.RowKit
set_option maxRecDepth 100000
set_option maxHeartbeats 200000
set_option linter.unusedVariables false
theorem bytes_new (s : List UInt8) (w : World) : ∃ W' c, (convert 9 22 (.string (bstr s))).run Tryz.prog w = .ok (.slice (some ⟨w.heap.size, 0, none⟩) s.length c) W' ∧ Below w.heap.size w W' ∧
    Bs W' (some ⟨w.heap.size, 0, none⟩) s ∧ s.length ≤ c ∧ w.heap.size < W'.heap.size := by
  have hr := Lib.run_convert_string_bytes (P := Tryz.prog) w 9 22 5 (bstr s) Tryz.underlying9 Tryz.underlying22 Tryz.underlying5
  have hsz : (bstr s).size = s.length := by show s.toArray.size = _; simp
  have hnew := Lib.bytesWorld_at_new w 5 (bstr s)
  have hb : Below w.heap.size w (Lib.bytesWorld w 5 (bstr s)) := ⟨rfl, rfl, rfl, by rw [Lib.bytesWorld_size]; omega, fun i hi => Lib.bytesWorld_at_old w 5 (bstr s) i hi⟩
  have hcs : ∀ j v, (bvs s)[j]? = some v → (Lib.bytesCells w 5 (bstr s))[0 + j]? = some v := fun j v hj => by
    have hlt : j < s.length := by
      rcases Nat.lt_or_ge j s.length with h | h
      · exact h
      · rw [List.getElem?_eq_none (by simpa using h)] at hj; cases hj
    simp only [bvs, bv, List.getElem?_map, List.getElem?_eq_getElem hlt, Option.map_some] at hj
    injection hj with hj
    subst hj
    simp [Lib.bytesCells, Array.getElem?_append, hlt]
  rw [hsz] at hr
  exact ⟨_, _, hr, hb, Sl.of_block hnew hcs, grownCap_ge _ _ _ _, by rw [Lib.bytesWorld_size]; omega⟩
theorem word_len (k : Int) : (wordI k).length ≤ 6 := by
  unfold wordI
  split
  · decide
  · split
    · decide
    · split
      · decide
      · split
        · decide
        · simp
theorem dec_len (n : Nat) : (Lib.decDigits n).length ≤ n + 1 := by
  have : ∀ f n, n ≤ f → (Lib.decDigits n).length ≤ n + 1 := by
    intro f
    induction f with
    | zero => intro n hn; rw [Lib.decDigits_one (by omega)]; simp
    | succ f ih =>
      intro n hn
      by_cases h : n < 10
      · rw [Lib.decDigits_one h]; simp
      · rw [Lib.decDigits, dif_neg h, List.length_append, List.length_singleton]
        have := ih (n / 10) (by omega)
        omega
  exact this n n (Nat.le_refl _)
theorem head_eq (k : Int) (n : Nat) : (bstr (wordI k) ++ ⟨#[32]⟩ ++ bstr (Lib.decDigits n) ++ ⟨#[0]⟩ : ByteArray) = bstr (headI k n ++ [0]) := by
  apply ByteArray.ext
  simp [headI]
theorem head_len (k : Int) (n : Nat) : (headI k n).length ≤ n + 8 := by
  have := word_len k; have := dec_len n
  unfold headI
  rw [List.length_append, List.length_cons]
  omega
/-- a row of two slices of bytes -/
theorem two_rws {w : World} {g : Nat} {A B : Option Addr} {c d n m : Nat} {x y : List UInt8} (hg : w.heap[g]? = some (.cells #[.slice A n c, .slice B m d] 22 (0, 0))) (hn : n = x.length) (hm : m = y.length) (hc : n ≤ c) (hd : m ≤ d) (hA : Bs w A x) (hB : Bs w B y) :
    Rws w (some ⟨g, 0, none⟩) [x, y] := fun j l hj => by
  subst hn hm
  match j with
  | 0 =>
    injection hj with hj
    subst hj
    exact ⟨_, A, c, rfl, by simp [World.cell?, Addr.add, hg], hc, hA⟩
  | 1 =>
    injection hj with hj
    subst hj
    exact ⟨_, B, d, rfl, by simp [World.cell?, Addr.add, hg], hd, hB⟩
  | j + 2 => simp at hj
theorem canon_any (k : Int) (b : List UInt8) (hb : b.length ≤ 1073741824) (A : Option Addr) (c : Nat) (hc : b.length ≤ c) (w : World) (hg : Gb w) (hA : Bs w A b) :
    Calls Tryz.prog 12 #[.int .i64 k, .slice A b.length c] w (Out 5 (canonI k b) w) := by
  have k1 := fun w => oword_any k w
  obtain ⟨q, hq⟩ : ∃ q, q = wordI k := ⟨_, rfl⟩
  by_cases hw : wordI k = []
  · have e : canonI k b = [] := by unfold canonI; rw [if_pos hw]
    rw [e]
    rw [hw] at k1
    clear e hq hw
    go_enter Tryz.func12, Tryz.ntmps12
    go_wp2_with (go_at_call 16; (with_reducible refine (k1 _).mono ?_); rintro e w1 ⟨rfl, rfl⟩)
    go_ret
    exact ⟨_, rfl, Win.nil _ _ _ _, Below.refl _ _⟩
  · have e : canonI k b = headI k b.length ++ [0] ++ b := by unfold canonI; rw [if_neg hw, List.append_assoc, List.singleton_append]
    have t1 : (q == ([] : List UInt8)) = false := by rw [hq]; simpa using hw
    have t2 : q.isEmpty = false := by rw [hq]; cases h : wordI k with | nil => exact absurd h hw | cons => rfl
    have hh := head_eq k b.length
    obtain ⟨dd, hdd⟩ : ∃ dd, dd = Lib.decDigits b.length := ⟨_, rfl⟩
    rw [← hdd] at hh
    have hhl := head_len k b.length
    rw [← hq] at hh k1
    obtain ⟨n, hn⟩ : ∃ n, n = b.length := ⟨_, rfl⟩
    obtain ⟨hd, hhd⟩ : ∃ hd, hd = headI k b.length ++ [0] := ⟨_, rfl⟩
    have hdl : hd.length ≤ n + 9 := by rw [hhd, hn, List.length_append, List.length_singleton]; omega
    rw [← hhd] at e hh
    rw [e]
    rw [← hn] at hb hc ⊢
    have HH := Lib.hid hh; have HA := Lib.hid hA; have HG := Lib.hid hg; have HN := Lib.hid hn
    have hq6 : q.length ≤ 6 := by rw [hq]; exact word_len k
    have hd6 : dd.length ≤ 2000000000 := by rw [hdd]; have := dec_len b.length; omega
    have HF : Hid ([hd, b].flatten = hd ++ b) := Lib.hid (by simp)
    obtain ⟨m, hm⟩ : ∃ m, m = (hd ++ b).length := ⟨_, rfl⟩
    have HM := Lib.hid hm
    clear hm
    have ki := itoa_any n (by omega) w hg
    rw [hn] at ki
    rw [← hdd, ← hn] at ki
    clear hh hA hg hn hhd hq hw e hhl hdd
    go_enter Tryz.func12, Tryz.ntmps12
    go_upto_region 3 with (go_at_call 16; (with_reducible refine (k1 _).mono ?_); rintro e w1 ⟨rfl, rfl⟩)
    clear t1 t2
    have HB := Lib.hid hb; have HDL := Lib.hid hdl
    clear hb hdl
    go_wp2_with (first
      | (go_at_call 16; (with_reducible refine (k1 _).mono ?_); rintro e w1 ⟨rfl, rfl⟩)
      | (go_at_call 53; (with_reducible refine ki.mono ?_); rintro e w2 ⟨rfl, hb2⟩
         obtain ⟨W1, c1, hcv, hb3, hs3, hc3, _⟩ := bytes_new hd w2
         rw [← HH.out] at hcv)
      | (go_at_call 52
         go_loud (have hb4 := hb2.trans (hb3.mono hb2.size)
                  have hb5 : Below W1.heap.size W1 (W1.alloc (.cells #[.slice (some ⟨w2.heap.size, 0, none⟩) hd.length c1, .slice A n c] 22)) := (Below.refl _ _).alloc (Nat.le_refl _) _
                  have hb6 := hb4.trans (hb5.mono hb4.size)
                  have kc : Calls Tryz.prog 52 #[.slice (some ⟨W1.heap.size, 0, none⟩) 2 2] _ _ := concat_any (some ⟨W1.heap.size, 0, none⟩) 2 [hd, b] _ (two_rws (heap_alloc_new W1 _) rfl HN.out hc3 hc (hs3.below hb5) (HA.out.below hb6)) (by simp) (by have := HB.out; have := HDL.out; have := HN.out; simp; omega)
                  (with_reducible refine kc.mono ?_); rintro e w5 ⟨v5, rfl, hw5, hb7⟩
                  rw [HF.out] at hw5
                  obtain ⟨A5, c5, rfl, hc5, _, _⟩ := hw5.readsN HM.out.symm))
      | (go_at_call 51; (with_reducible refine (clipB A5 _ c5 hc5 _).mono ?_); rintro e w6 ⟨rfl, rfl⟩))
    go_ret
    refine ⟨_, rfl, ?_, hb6.trans (hb7.mono hb6.size)⟩
    have hw6 := WinB.clip hw5 HM.out
    exact Win.base hw6 hb6.size
end
section
open Go.RowKit
set_option maxRecDepth 100000
set_option maxHeartbeats 1000000
set_option linter.unusedVariables false
theorem canon_len (k : Int) (b : List UInt8) : (canonI k b).length ≤ 2 * b.length + 9 := by
  unfold canonI
  split
  · simp
  · have := head_len k b.length
    rw [List.length_append, List.length_cons]
    omega
theorem id_any (k : Int) (b : List UInt8) (hb : b.length ≤ 1073741824) (A : Option Addr) (c : Nat) (hc : b.length ≤ c) (w : World) (hg : Gb w) (hA : Bs w A b) :
    Calls Tryz.prog 14 #[.int .i64 k, .slice A b.length c] w fun e w' => e = .returned (idv (sha1 (canonI k b))) ∧ Below w.heap.size w w' := by
  obtain ⟨W0, hW0⟩ : ∃ W0, W0 = w.alloc (.cells (bvs zs20).toArray 27) := ⟨_, rfl⟩
  have hb0 : Below w.heap.size w W0 := by rw [hW0]; exact (Below.refl _ _).alloc (Nat.le_refl _) _
  have r0 : W0.heap[w.heap.size]? = some (.cells (bvs zs20).toArray 27 (0, 0)) := by rw [hW0]; exact heap_alloc_new _ _
  have kc := canon_any k b hb A c hc W0 (hg.below hb0) (hA.below hb0)
  have hcl := canon_len k b
  have hcl2 : (canonI k b).length ≤ 1099511627000 := by omega
  have ks : ∀ (A' : Option Addr) (c' : Nat) (w' : World), Bs w' A' (canonI k b) → Calls Tryz.prog 55 #[.slice A' (canonI k b).length c'] w' fun e w'' => e = .returned (idv (sha1 (canonI k b))) ∧ Below w'.heap.size w' w'' := fun A' c' w' h => sum_any A' c' (canonI k b) hcl2 w' h
  have zx := info23 (sha1 (canonI k b)) (sha1_len _)
  have hz20 : (bvs zs20).toArray.size = (bvs (sha1 (canonI k b))).toArray.size := by rw [show (bvs (sha1 (canonI k b))).toArray.size = 20 by simp [sha1_len]]; rfl
  obtain ⟨y, hy⟩ : ∃ y, y = sha1 (canonI k b) := ⟨_, rfl⟩
  obtain ⟨x, hx⟩ : ∃ x, x = canonI k b := ⟨_, rfl⟩
  rw [← hy] at zx hz20 ks ⊢
  rw [← hx] at kc ks
  obtain ⟨n, hn⟩ : ∃ n, n = x.length := ⟨_, rfl⟩
  rw [← hn] at ks
  obtain ⟨m, hm⟩ : ∃ m, m = b.length := ⟨_, rfl⟩
  rw [← hm] at kc ⊢
  have HW0 := Lib.hid hW0; have HB0 := Lib.hid hb0; have R0 := Lib.hid r0; have ZX := Lib.hid zx; have HZ := Lib.hid hz20; have HN := Lib.hid hn
  clear hW0 hb0 r0 zx hz20 hcl hcl2 hy hx hn hm hb hc hA hg
  go_enter Tryz.func14, Tryz.ntmps14
  go_upto_region 1 with fail
  simp only [zlit]
  rw [← HW0.out]
  go_wp2_with (first
    | (go_at_call 12
       go_loud ((with_reducible refine kc.mono ?_); rintro e w1 ⟨v1, rfl, hw1, hb1⟩
                obtain ⟨A1, c1, rfl, hc1, _, hs1⟩ := hw1.readsN HN.out.symm))
    | (go_at_call 55
       go_loud ((with_reducible refine (ks A1 c1 w1 hs1).mono ?_); rintro e w3 ⟨rfl, hb3⟩
                have bb := HB0.out.trans ((hb1.mono HB0.out.size).trans (hb3.mono (HB0.out.trans (hb1.mono HB0.out.size)).size))
                have R3 := Lib.hid ((hb3.block _ (Nat.lt_of_lt_of_le (Array.getElem?_eq_some_iff.1 R0.out).1 hb1.size)).trans ((hb1.block _ (Array.getElem?_eq_some_iff.1 R0.out).1).trans R0.out))))
    | (refine wpList_store_row rfl 27 (.tmp 4) (.tmp 8) rfl w.heap.size (bvs y).toArray rfl rfl 27 (bvs zs20).toArray R3.out ZX.out HZ.out (one_bvs _) ?_))
  refine bodyPost_ret (results_cell_row rfl _ _ _ 27 (bvs y).toArray (0, 0) _ rfl (setRow_heap _ _ _ _ _ _ R3.out) Tryz.underlying27 rfl ZX.out) rfl ?_
  exact ⟨rfl, below_setRow bb _ (Nat.le_refl _) _⟩
end
section
open Go.RowKit
set_option maxRecDepth 100000
set_option maxHeartbeats 1000000
set_option linter.unusedVariables false
def dpre (m : Nat) : List UInt8 := if m < 10 then [] else Lib.decDigits (m / 10)
theorem dpre_dec (m : Nat) : Lib.decDigits m = dpre m ++ [UInt8.ofNat (48 + m % 10)] := by
  unfold dpre
  by_cases h : m < 10
  · rw [if_pos h, Lib.decDigits_one h, Nat.mod_eq_of_lt h]; rfl
  · rw [if_neg h]
    conv => lhs; rw [Lib.decDigits]
    rw [dif_neg h]
theorem dig_nat {d : Nat} (h : d < 10) : (48 + (d : Int)) = ((UInt8.ofNat (48 + d)).toNat : Int) := by
  simp; omega
theorem decimal_any (n : Nat) (hn : n ≤ 1073741824) (w : World) : Calls Tryz.prog 54 #[.int .i64 (n : Int)] w fun e w' => e = .returned (.string (bstr (Lib.decDigits n))) ∧ Below w.heap.size w w' := by
  obtain ⟨d, hd⟩ : ∃ d, d = n % 10 := ⟨_, rfl⟩
  have hd10 : d < 10 := by omega
  have hm : (n : Int) % 10 = (d : Int) := by omega
  obtain ⟨y, hy⟩ : ∃ y, y = UInt8.ofNat (48 + d) := ⟨_, rfl⟩
  have hyn : (48 + (d : Int)) = (y.toNat : Int) := by rw [hy]; exact dig_nat hd10
  have hcv := conv34 (w := w.alloc (.cells #[.int .u8 (48 + (d : Int))] 5)) (A := some ⟨w.heap.size, 0, none⟩) (l := [y]) (c := 1) (n := 1) (Sl.of_block (heap_alloc_new _ _) (one_byte hyn)) rfl
  have H0 : Hid (Lib.decDigits n = dpre n ++ [y]) := Lib.hid (by rw [hy, hd]; exact dpre_dec n)
  have HL : Hid ((Lib.decDigits n).length ≤ 1999999999) := Lib.hid (by have := dec_len n; omega)
  clear hd hy hyn
  go_enter Tryz.func54, Tryz.ntmps54
  go_wp2
  go_loopw [0, 3] (fun t0 t3 wr => ∃ (m : Nat) (s : List UInt8), t0 = .int .i64 (m : Int) ∧ t3 = .string (bstr s) ∧ m ≤ 1073741824 ∧ s.length ≤ 2000000000 ∧ Hid (Lib.decDigits n = dpre m ++ s) ∧ Below w.heap.size w wr) (fun t0 _ _ => (intOf t0).toNat)
  case atStart => exact ⟨n, [y], rfl, rfl, hn, by simp, H0, (Below.refl _ _).alloc (Nat.le_refl _) _⟩
  case round =>
    obtain ⟨m, s, rfl, rfl, hm9, hs9, HS, hbw⟩ := hrel
    by_cases h10 : m < 10
    · have e : Lib.decDigits n = s := by have := HS.out; unfold dpre at this; rw [if_pos h10] at this; exact this
      have HE := Lib.hid e
      clear e hcv
      go_wp2
      go_ret
      exact ⟨by rw [HE.out]; rfl, hbw⟩
    · obtain ⟨q, hq⟩ : ∃ q, q = m / 10 := ⟨_, rfl⟩
      obtain ⟨x, hx⟩ : ∃ x, x = q % 10 := ⟨_, rfl⟩
      have hx10 : x < 10 := by omega
      have hqi : (m : Int) / 10 = (q : Int) := by omega
      have hxi : (q : Int) % 10 = (x : Int) := by omega
      obtain ⟨z, hz⟩ : ∃ z, z = UInt8.ofNat (48 + x) := ⟨_, rfl⟩
      have hzn : (48 + (x : Int)) = (z.toNat : Int) := by rw [hz]; exact dig_nat hx10
      have hcv2 := conv34 (w := wr.alloc (.cells #[.int .u8 (48 + (x : Int))] 5)) (A := some ⟨wr.heap.size, 0, none⟩) (l := [z]) (c := 1) (n := 1) (Sl.of_block (heap_alloc_new _ _) (one_byte hzn)) rfl
      have hadd : (bstr [z] ++ bstr s : ByteArray) = bstr (z :: s) := bstr_app _ _
      have HS2 : Hid (Lib.decDigits n = dpre q ++ (z :: s)) := Lib.hid (by
        rw [HS.out]
        conv => lhs; rw [dpre, if_neg h10, ← hq, dpre_dec q, ← hx, ← hz]
        rw [List.append_assoc]; rfl)
      have hsl : (z :: s).length ≤ 2000000000 := by
        have := congrArg List.length HS2.out
        have := HL.out
        rw [List.length_append] at *
        omega
      have hq9 : q ≤ 1073741824 := by omega
      have hqm : q < m := by omega
      have h10i : decide ((10 : Int) ≤ (m : Int)) = true := decide_eq_true (by omega)
      have HSL := Lib.hid hsl; have HADD := Lib.hid hadd; have HQ9 := Lib.hid hq9; have HQM := Lib.hid hqm
      clear hsl hadd hq hx HS hcv hz hzn hq9 hqm
      go_wp2
      go_roundw
      case rel => exact ⟨q, _, rfl, by rw [HADD.out], HQ9.out, HSL.out, HS2, hbw.alloc hbw.size _⟩
      case measure => have := HQM.out; simp only [intOf]; omega
end
section
open Go.RowKit
set_option maxRecDepth 100000
set_option maxHeartbeats 1000000
set_option linter.unusedVariables false
theorem run_storeCells_atZ (P : Program) (g o : Nat) (t : TypeId) (fz : Nat × Nat) : ∀ (vs : List Value) (i : Nat) (cur : Array Value) (w : World), w.heap[g]? = some (.cells cur t fz) → (o + i + vs.length ≤ fz.1 ∨ fz.2 ≤ fz.1) → o + i + vs.length ≤ cur.size → (∀ v ∈ vs, v.oneCell' = true) →
    (storeCells ⟨g, o, none⟩ vs i).run P w = .ok () (w.setRow g (cur.toList.take (o + i) ++ vs ++ cur.toList.drop (o + i + vs.length)).toArray)
  | [], i, cur, w, hg, _, _, _ => by
    simp only [storeCells, List.append_nil, List.length_nil, Nat.add_zero, List.take_append_drop, Array.toArray_toList]
    rw [setRow_self w g cur t fz hg]
    rfl
  | v :: rest, i, cur, w, hg, hfz, hl, h1 => by
    have hi : o + i < cur.size := by simp at hl; omega
    have hadd : (⟨g, o, none⟩ : Addr).add i = ⟨g, o + i, none⟩ := by unfold Addr.add; split <;> simp_all
    have hcell : w.cell? ⟨g, o + i, none⟩ = some cur[o + i] := by simp [World.cell?, hg, hi]
    have hfro : w.frozen? ⟨g, o + i, none⟩ = false := by
      obtain ⟨lo, hi'⟩ := fz
      simp only [World.frozen?, hg, Bool.and_eq_false_iff, decide_eq_false_iff_not]
      simp only [List.length_cons] at hfz
      omega
    have hst : (store ((⟨g, o, none⟩ : Addr).add i) v).run P w = .ok () (w.setRow g (cur.setIfInBounds (o + i) v)) := by
      rw [hadd, run_store P w _ v _ (h1 v (by simp)), hcell]
      simp [hfro, setCell_eq_setRow w g (o + i) cur t fz v hg]
    have ih := run_storeCells_atZ P g o t fz rest (i + 1) (cur.setIfInBounds (o + i) v) (w.setRow g (cur.setIfInBounds (o + i) v)) (setRow_heap w g cur _ t _ hg) (by simp only [List.length_cons] at hfz; omega) (by simp at hl ⊢; omega) (fun x hx => h1 x (by simp [hx]))
    simp only [storeCells, Sem.run_bind, hst, Result.andThen_ok, ih, setRow_setRow]
    congr 3
    have e := list_seg_step cur.toList (o + i) v rest (by simp at hl ⊢; omega)
    simpa [Array.toList_setIfInBounds, Nat.add_assoc] using e
/-- Win, but for a frozen mark beyond the capacity -/
def WinZ (w : World) (B : Nat) (e size : Nat) (v : Value) (n : Nat) (xs : List Value) : Prop :=
  xs.length = n * size ∧ ((v = .slice none 0 0 ∧ n = 0) ∨
    ∃ g off cap cur fz, v = .slice (some ⟨g, off, none⟩) n cap ∧ B ≤ g ∧ w.heap[g]? = some (.cells cur e fz) ∧ (off + cap * size ≤ fz.1 ∨ fz.2 ≤ fz.1) ∧ n ≤ cap ∧ cap ≤ maxLen ∧ off + cap * size ≤ cur.size ∧ (cur.toList.drop off).take (n * size) = xs)
namespace WinZ
variable {w w' : World} {B e size n : Nat} {v : Value} {xs : List Value}
theorem nil (w : World) (B e size : Nat) : WinZ w B e size (.slice none 0 0) 0 [] := ⟨by simp, .inl ⟨rfl, rfl⟩⟩
theorem block (h : WinZ w B e size v n xs) : ∀ g, v.ownBlock = some g → B ≤ g ∧ g < w.heap.size := by
  intro g hg
  rcases h.2 with ⟨rfl, _⟩ | ⟨g', off, cap, cur, fz, rfl, h1, h2, _⟩
  · cases hg
  · simp [Value.ownBlock] at hg
    subst hg
    exact ⟨h1, (Array.getElem?_eq_some_iff.1 h2).1⟩
theorem keep (h : WinZ w B e size v n xs) (hb : ∀ g, v.ownBlock = some g → w'.heap[g]? = w.heap[g]?) : WinZ w' B e size v n xs := by
  refine ⟨h.1, ?_⟩
  rcases h.2 with h | ⟨g, off, cap, cur, fz, rfl, h1, h2, h3⟩
  · exact .inl h
  · exact .inr ⟨g, off, cap, cur, fz, rfl, h1, (hb g rfl).trans h2, h3⟩
theorem below (h : WinZ w B e size v n xs) (hb : Below w.heap.size w w') : WinZ w' B e size v n xs :=
  h.keep (fun g hg => hb.block g (h.block g hg).2)
theorem reads (h : WinZ w B e size v n xs) : ∃ A c, v = .slice A n c ∧ n ≤ c ∧ c ≤ maxLen ∧ Sl w A xs := by
  rcases h.2 with ⟨rfl, rfl⟩ | ⟨g, off, cap, cur, fz, rfl, h1, h2, h3, h4, h5, h6, h7⟩
  · have hx : xs = [] := List.eq_nil_of_length_eq_zero (by simpa using h.1)
    subst hx
    exact ⟨none, 0, rfl, Nat.le_refl _, by unfold maxLen; omega, Sl.nil _ _⟩
  · refine ⟨_, cap, rfl, h4, h5, Sl.of_block h2 (fun j v hj => ?_)⟩
    rw [← h7, List.getElem?_take] at hj
    split at hj
    · rw [List.getElem?_drop] at hj
      simpa using hj
    · cases hj
theorem at_ {A : Option Addr} {c : Nat} (h : WinZ w B e size (.slice A n c) n xs) : Sl w A xs := by
  obtain ⟨A', c', e, _, _, hs⟩ := h.reads
  injection e with e1 _ _
  subst e1; exact hs
end WinZ
theorem run_appZ {P : Program} {w : World} (B t tx ty e : Nat) (z : Value) (size bytes : Nat) (ht : P.underlying t = some (.slice e)) (hinfo : (P.info? e).map (fun i => (i.zero, i.size, i.bytes)) = some (some z, size, bytes))
    (hzs : z.cells.size = size) (hsz : 0 < size) (v : Value) (n : Nat) (xs : List Value) (hown : WinZ w B e size v n xs)
    (x : Value) (m : Nat) (news : List Value) (hs : Src P size tx x m news w) (hbytes : (n + m) * bytes ≤ 140737488355328) (h63 : n + m ≤ maxLen) (hB : B ≤ w.heap.size) :
    ∃ v' w', (Builtin.append_ #[t, tx] ty #[v, x]).run P w = .ok v' w' ∧ WinZ w' B e size v' (n + m) (xs ++ news) ∧ Kp (fun k => v.ownBlock = some k) w w' ∧ (v'.ownBlock = v.ownBlock ∨ v'.ownBlock = some w.heap.size) := by
  obtain ⟨i, hi, hz, hsize, hby⟩ := info_parts hinfo
  subst hsize hby
  have hl := hs.newsLen
  have hlen : (xs ++ news).length = (n + m) * i.size := by rw [List.length_append, hown.1, hl, Nat.add_mul]
  have grown : ∀ (old : Nat), old < n + m →
      WinZ (w.drew.alloc (.cells ((xs ++ news).toArray ++ Builtin.zeroCells z.cells (grownCap w (n + m) old e - (n + m))) e)) B e i.size
        (.slice (some ⟨w.heap.size, 0, none⟩) (n + m) (grownCap w (n + m) old e)) (n + m) (xs ++ news) := by
    intro old ho
    have hge := grownCap_ge w (n + m) old e
    have hcm : grownCap w (n + m) old e ≤ maxLen := grownCap_le_maxLen w (n + m) old e h63
    refine ⟨hlen, .inr ⟨w.heap.size, 0, _, _, (0, 0), rfl, hB, heap_alloc_new w.drew _, .inr (Nat.le_refl _), hge, hcm, ?_, ?_⟩⟩
    · simp only [Array.size_append, List.size_toArray, size_zeroCells, hzs, hlen, ← Nat.add_mul]
      refine Nat.le_of_eq ?_
      rw [Nat.zero_add]
      congr 1
      omega
    · rw [Array.toList_append, List.toList_toArray, List.drop_zero, ← hlen]
      exact List.take_left
  have hkp : ∀ o, Kp (fun k => v.ownBlock = some k) w (w.drew.alloc o) := fun o => ((Kp.refl _ w).drew).alloc o
  have hgs : ∀ old, old < n + m → Builtin.nextslicecap (n + m) old * i.bytes ≤ 281474976710656 := fun old h => growslice_fits h hbytes
  have h63' : ((n + m : Nat) : Int) ≤ 9223372036854775807 := by simp only [maxLen] at h63; omega
  rcases hown.2 with ⟨rfl, rfl⟩ | ⟨g, off, cap, cur, fz, rfl, hbg, hg, hfz, hnc, hcm, hcs, htake⟩
  · have hx : xs = [] := List.eq_nil_of_length_eq_zero (by simpa using hown.1)
    subst hx
    by_cases hm : m = 0
    · subst hm
      have hn : news = [] := List.eq_nil_of_length_eq_zero (by simpa using hl)
      subst hn
      refine ⟨.slice none 0 0, w, ?_, WinZ.nil w B e i.size, Kp.refl _ _, .inl rfl⟩
      rcases hs.kind with ⟨e', hk⟩ | hk <;> simp [Builtin.append_, run_underlying ht, run_underlying hk, sizeOf, typeInfo, hi, hs.len, hs.cells]
    · have hr := run_append_grow_src (P := P) w t tx ty e i z ht hi hz none 0 0 [] (by simp [Builtin.firstCells]) x m news hs (by omega) (by simpa using h63') (hgs 0 (by omega))
      refine ⟨_, _, hr, ?_, hkp _, .inr rfl⟩
      exact grown 0 (by omega)
  · by_cases hroom : n + m ≤ cap
    · have hfit : off + n * i.size + 0 + news.length ≤ cur.size := by
        have := Nat.mul_le_mul_right i.size hroom
        rw [hl, Nat.add_zero, Nat.add_assoc, ← Nat.add_mul]; omega
      have hst := run_storeCells_atZ P g (off + n * i.size) e fz news 0 cur w hg (hfz.imp (fun h => by have := Nat.mul_le_mul_right i.size hroom; rw [hl, Nat.add_zero, Nat.add_assoc, ← Nat.add_mul]; omega) id) hfit hs.one
      simp only [Nat.add_zero] at hst
      have hr : (Builtin.append_ #[t, tx] ty #[.slice (some ⟨g, off, none⟩) n cap, x]).run P w = .ok (.slice (some ⟨g, off, none⟩) (n + m) cap) (w.setRow g (cur.toList.take (off + n * i.size) ++ news ++ cur.toList.drop (off + n * i.size + news.length)).toArray) := by
        rcases hs.kind with ⟨e', hk⟩ | hk <;> simp [Builtin.append_, run_underlying ht, run_underlying hk, sizeOf, typeInfo, hi, hs.len, hroom, hs.cells, Addr.add_lit, hst]
      refine ⟨_, _, hr, ⟨hlen, .inr ⟨g, off, cap, _, fz, rfl, hbg, setRow_heap w g cur _ e _ hg, hfz, hroom, hcm, ?_, ?_⟩⟩, ⟨rfl, rfl, rfl, by simp, fun k _ hk => setRow_other w g k _ (fun e => hk (by simp [Value.ownBlock, e]))⟩, .inl rfl⟩
      · simp only [List.size_toArray, List.length_append, List.length_take, List.length_drop, Array.length_toList]
        omega
      · have hnl : n * i.size ≤ cap * i.size := Nat.mul_le_mul_right _ hnc
        have e1 : cur.toList.take (off + n * i.size) = cur.toList.take off ++ xs := by rw [List.take_add, htake]
        have e2 : (cur.toList.take off).length = off := by rw [List.length_take, Array.length_toList]; omega
        rw [e1, List.toList_toArray, List.append_assoc, List.append_assoc, List.drop_append_of_le_length (by omega), List.drop_eq_nil_of_le (by omega), List.nil_append, ← List.append_assoc, ← hlen]
        exact List.take_left
    · have holds : ∀ j u, xs[j]? = some u → w.cell? ((⟨g, off, none⟩ : Addr).add j) = some u := fun j u hj => by
        obtain ⟨ad, ea, hc⟩ := hown.at_ j u hj
        injection ea with ea
        subst ea
        exact hc
      have hr := run_append_grow_src (P := P) w t tx ty e i z ht hi hz (some ⟨g, off, none⟩) n cap xs (run_firstCells_some (P := P) w.drew i.size n ⟨g, off, none⟩ n cap xs hown.1 (by simpa using holds)) x m news hs (by omega) h63' (hgs cap (by omega))
      exact ⟨_, _, hr, grown cap (by omega), hkp _, .inr rfl⟩
theorem wpList_appZ {P : Program} {w : World} {ops : Array Oper} {rest : List Oper} {o : Oper} {a : Act} {Q : Exit → Act → World → Prop} (hgd : o.guard = none) (s x : Operand) (t tx : TypeId)
    (ho : o.op = .call { callee := .builtin .append, args := #[s, x], argTypes := #[t, tx] })
    (B e : Nat) (z : Value) (size bytes : Nat) (ht : P.underlying t = some (.slice e)) (hinfo : (P.info? e).map (fun i => (i.zero, i.size, i.bytes)) = some (some z, size, bytes))
    (hzs : z.cells.size = size) (hsz : 0 < size) (v : Value) (n : Nat) (xs : List Value) (hs : a.eval s = v) (hown : WinZ w B e size v n xs)
    (y : Value) (m : Nat) (news : List Value) (hx : a.eval x = y) (hsrc : Src P size tx y m news w) (hbytes : (n + m) * bytes ≤ 140737488355328) (h63 : n + m ≤ maxLen) (hB : B ≤ w.heap.size)
    (h : ∀ v' w', WinZ w' B e size v' (n + m) (xs ++ news) → Kp (fun k => v.ownBlock = some k) w w' → (v'.ownBlock = v.ownBlock ∨ v'.ownBlock = some w.heap.size) → wpList P ops Q rest (a.put o.dst v') w') : wpList P ops Q (o :: rest) a w := by
  refine wpList_plain hgd fun K hK => ?_
  obtain ⟨v', w', hrun, h1, h2, h3⟩ := run_appZ (P := P) B t tx o.type e z size bytes ht hinfo hzs hsz v n xs hown y m news hsrc hbytes h63 hB
  unfold Oper.wp
  simp [execOp, ho, resolve, invoke, builtin, hs, hx, hrun, Result.andThen]
  exact hK _ _ (h v' w' h1 h2 h3)

end
section
open Go.RowKit
set_option maxRecDepth 100000
set_option maxHeartbeats 1000000
set_option linter.unusedVariables false
theorem bytes_newZ (s : List UInt8) (hs : s.length ≤ 1099511627776) (w : World) : ∃ W' c, (convert 9 22 (.string (bstr s))).run Tryz.prog w = .ok (.slice (some ⟨w.heap.size, 0, none⟩) s.length c) W' ∧ Below w.heap.size w W' ∧
    WinZ W' w.heap.size 5 1 (.slice (some ⟨w.heap.size, 0, none⟩) s.length c) s.length (bvs s) := by
  have hr := Lib.run_convert_string_bytes (P := Tryz.prog) w 9 22 5 (bstr s) Tryz.underlying9 Tryz.underlying22 Tryz.underlying5
  have hsz : (bstr s).size = s.length := bstr_size s
  have hnew := Lib.bytesWorld_at_new w 5 (bstr s)
  have hb : Below w.heap.size w (Lib.bytesWorld w 5 (bstr s)) := ⟨rfl, rfl, rfl, by rw [Lib.bytesWorld_size]; omega, fun i hi => Lib.bytesWorld_at_old w 5 (bstr s) i hi⟩
  have hge := grownCap_ge w (bstr s).size 0 5
  have hcs : (Lib.bytesCells w 5 (bstr s)).size = grownCap w (bstr s).size 0 5 := by
    have : (bstr s).data.size = (bstr s).size := rfl
    unfold Lib.bytesCells
    rw [Array.size_append, Array.size_map, Array.size_replicate]
    omega
  have hml := grownCap_le_maxLen w (bstr s).size 0 5 (by unfold maxLen; omega)
  rw [hsz] at hr
  refine ⟨_, _, hr, hb, by simp, .inr ⟨w.heap.size, 0, _, _, _, rfl, Nat.le_refl _, hnew, .inl (by rw [hcs, hsz]; simp), by rw [← hsz]; exact hge, by rw [← hsz]; exact hml, by rw [hcs, hsz]; simp, ?_⟩⟩
  rw [List.drop_zero, Nat.mul_one]
  unfold Lib.bytesCells
  rw [Array.toList_append, List.take_append_of_le_length (by simp)]
  rw [List.take_of_length_le (by simp)]
  simp only [bvs, Array.toList_map]
  rfl
theorem appZ34 {w : World} {ops : Array Oper} {rest : List Oper} {o : Oper} {a : Act} {Q : Exit → Act → World → Prop} (hgd : o.guard = none) (s x : Operand)
    (ho : o.op = .call { callee := .builtin .append, args := #[s, x], argTypes := #[22, 22] })
    (B : Nat) (v : Value) (l : List UInt8) (hs : a.eval s = v) (hown : WinZ w B 5 1 v l.length (bvs l)) (A : Option Addr) (c : Nat) (m : List UInt8) (hx : a.eval x = .slice A m.length c) (hA : Bs w A m)
    (hb : l.length + m.length ≤ 140737488351232) (hB : B ≤ w.heap.size)
    (h : ∀ v' w', WinZ w' B 5 1 v' (l ++ m).length (bvs (l ++ m)) → Kp (fun k => v.ownBlock = some k) w w' → (v'.ownBlock = v.ownBlock ∨ v'.ownBlock = some w.heap.size) → wpList Tryz.prog ops Q rest (a.put o.dst v') w') : wpList Tryz.prog ops Q (o :: rest) a w :=
  wpList_appZ hgd s x 22 22 ho B 5 (.int .u8 0) 1 1 Tryz.underlying22 Tryz.info5 rfl (by decide) v l.length (bvs l) hs hown (.slice A m.length c) m.length (bvs m) hx (srcOf Tryz.underlying22 (by decide) (by simp) hA (bvs_one m)) (by omega) (by unfold maxLen; omega) hB
    (fun v' w' h1 h2 h3 => h v' w' (by rw [List.length_append, bvs_append]; exact h1) h2 h3)
theorem canonR_any (k : Int) (b : List UInt8) (hb : b.length ≤ 1073741824) (A : Option Addr) (c : Nat) (w : World) (hA : Bs w A b) :
    Calls Tryz.prog 13 #[.int .i64 k, .slice A b.length c] w fun e w' => (∃ A' c', e = .returned (.slice A' (canonI k b).length c') ∧ (canonI k b).length ≤ c' ∧ Bs w' A' (canonI k b)) ∧ Below w.heap.size w w' := by
  have k1 := fun w => owordR_any k w
  by_cases hw : wordI k = []
  · have e : canonI k b = [] := by unfold canonI; rw [if_pos hw]
    rw [e]
    rw [hw] at k1
    clear e hw
    go_enter Tryz.func13, Tryz.ntmps13
    go_wp2_with (go_at_call 17; (with_reducible refine (k1 _).mono ?_); rintro e w1 ⟨rfl, rfl⟩)
    go_ret
    exact ⟨⟨_, _, rfl, Nat.le_refl _, Sl.nil _ _⟩, Below.refl _ _⟩
  · obtain ⟨q, hq⟩ : ∃ q, q = wordI k := ⟨_, rfl⟩
    have e : canonI k b = headI k b.length ++ [0] ++ b := by unfold canonI; rw [if_neg hw, List.append_assoc, List.singleton_append]
    have t1 : (q == ([] : List UInt8)) = false := by rw [hq]; simpa using hw
    have t2 : q.isEmpty = false := by rw [hq]; cases h : wordI k with | nil => exact absurd h hw | cons => rfl
    obtain ⟨dd, hdd⟩ : ∃ dd, dd = Lib.decDigits b.length := ⟨_, rfl⟩
    have hh : (bstr q ++ ⟨#[32]⟩ ++ bstr dd : ByteArray) = bstr (headI k b.length) := by
      rw [hq, hdd]
      apply ByteArray.ext
      simp [headI]
    have hhl := head_len k b.length
    rw [← hq] at k1
    obtain ⟨n, hn⟩ : ∃ n, n = b.length := ⟨_, rfl⟩
    obtain ⟨hd, hhd⟩ : ∃ hd, hd = headI k b.length := ⟨_, rfl⟩
    have hdl : hd.length ≤ 2000000000 := by rw [hhd]; omega
    rw [← hhd] at e hh
    have hq6 : q.length ≤ 6 := by rw [hq]; exact word_len k
    have hd6 : dd.length ≤ 2000000000 := by rw [hdd]; have := dec_len b.length; omega
    have ki := decimal_any n (by omega) w
    rw [hn] at ki
    rw [← hdd, ← hn] at ki
    rw [e]
    obtain ⟨m, hm⟩ : ∃ m, m = (hd ++ [0] ++ b).length := ⟨_, rfl⟩
    rw [← hm, ← hn]
    rw [← hn] at hb
    have HH := Lib.hid hh; have HA := Lib.hid hA; have HN := Lib.hid hn; have HB := Lib.hid hb; have HDL := Lib.hid hdl; have HM := Lib.hid hm
    clear hh hA hn hhd hq hw e hhl hdd hb hdl hm
    go_enter Tryz.func13, Tryz.ntmps13
    go_wp2_with (first
      | (go_at_call 17; (with_reducible refine (k1 _).mono ?_); rintro e w1 ⟨rfl, rfl⟩)
      | (go_at_call 54; (with_reducible refine ki.mono ?_); rintro e w2 ⟨rfl, hb2⟩
         obtain ⟨W1, c1, hcv, hb3, hw3⟩ := bytes_newZ hd (by have := HDL.out; omega) w2
         rw [← HH.out] at hcv
         have hb4 := hb2.trans (hb3.mono hb2.size)
         have ba : Below W1.heap.size W1 (W1.alloc (.cells #[.int .u8 0] 5)) := (Below.refl _ _).alloc (Nat.le_refl _) _
         have hb5 := hb4.trans (ba.mono hb4.size))
      | (at_builtin; go_loud (refine appZ34 rfl (.tmp 16) (.tmp 17) rfl w2.heap.size _ hd rfl (hw3.below ba) (some ⟨W1.heap.size, 0, none⟩) 1 [0] rfl (Sl.of_block (heap_alloc_new _ _) (one_byte rfl)) (by have := HDL.out; simp; omega) (Nat.le_trans hb3.size ba.size) ?_; intro v6 w6 hown6 hk6 _
                              have hb6 : Below w.heap.size w w6 := hb5.trans (hk6.toBelow hb5.size (fun k hk e => absurd (hw3.block k e).1 (by have := hb2.size; omega)))))
      | (at_builtin; go_loud (refine appZ34 rfl (.tmp 19) (.tmp 20) rfl w2.heap.size _ (hd ++ [0]) rfl hown6 A c b (by rw [← HN.out]; rfl) (HA.out.below hb6) (by have := HDL.out; have := HB.out; have := HN.out; simp; omega) (Nat.le_trans (Nat.le_trans hb3.size ba.size) hk6.size) ?_; intro v7 w7 hown7 hk7 _
                              have hb7 : Below w.heap.size w w7 := hb6.trans (hk7.toBelow hb6.size (fun k hk e => absurd (hown6.block k e).1 (by have := hb2.size; omega))))))
    go_ret
    obtain ⟨A8, c8, rfl, hc8, _, hs8⟩ := hown7.reads
    exact ⟨⟨A8, c8, by rw [HM.out]; rfl, by rw [HM.out]; exact hc8, hs8⟩, hb7⟩
theorem idR_any (k : Int) (b : List UInt8) (hb : b.length ≤ 1073741824) (A : Option Addr) (c : Nat) (w : World) (hA : Bs w A b) :
    Calls Tryz.prog 15 #[.int .i64 k, .slice A b.length c] w fun e w' => e = .returned (idv (sha1 (canonI k b))) ∧ Below w.heap.size w w' := by
  obtain ⟨W0, hW0⟩ : ∃ W0, W0 = w.alloc (.cells (bvs zs20).toArray 26) := ⟨_, rfl⟩
  have hb0 : Below w.heap.size w W0 := by rw [hW0]; exact (Below.refl _ _).alloc (Nat.le_refl _) _
  have r0 : W0.heap[w.heap.size]? = some (.cells (bvs zs20).toArray 26 (0, 0)) := by rw [hW0]; exact heap_alloc_new _ _
  have kc := canonR_any k b hb A c W0 (hA.below hb0)
  have hcl := canon_len k b
  have hcl2 : (canonI k b).length ≤ 1099511627000 := by omega
  have ks : ∀ (A' : Option Addr) (c' : Nat) (w' : World), Bs w' A' (canonI k b) → Calls Tryz.prog 56 #[.slice A' (canonI k b).length c'] w' fun e w'' => e = .returned (idv (sha1 (canonI k b))) ∧ Below w'.heap.size w' w'' := fun A' c' w' h => sumR_any (canonI k b) hcl2 A' c' w' h
  have zx := info22 (sha1 (canonI k b)) (sha1_len _)
  have hz20 : (bvs zs20).toArray.size = (bvs (sha1 (canonI k b))).toArray.size := by rw [show (bvs (sha1 (canonI k b))).toArray.size = 20 by simp [sha1_len]]; rfl
  obtain ⟨y, hy⟩ : ∃ y, y = sha1 (canonI k b) := ⟨_, rfl⟩
  obtain ⟨x, hx⟩ : ∃ x, x = canonI k b := ⟨_, rfl⟩
  rw [← hy] at zx hz20 ks ⊢
  rw [← hx] at kc ks
  obtain ⟨n, hn⟩ : ∃ n, n = x.length := ⟨_, rfl⟩
  rw [← hn] at ks kc
  obtain ⟨m, hm⟩ : ∃ m, m = b.length := ⟨_, rfl⟩
  rw [← hm] at kc ⊢
  have HW0 := Lib.hid hW0; have HB0 := Lib.hid hb0; have R0 := Lib.hid r0; have ZX := Lib.hid zx; have HZ := Lib.hid hz20; have HN := Lib.hid hn
  clear hW0 hb0 r0 zx hz20 hcl hcl2 hy hx hn hm hb hA
  go_enter Tryz.func15, Tryz.ntmps15
  go_upto_region 1 with fail
  simp only [zlit]
  rw [← HW0.out]
  go_wp2_with (first
    | (go_at_call 13
       go_loud ((with_reducible refine kc.mono ?_); rintro e w1 ⟨⟨A1, c1, rfl, hc1, hs1⟩, hb1⟩))
    | (go_at_call 56
       go_loud ((with_reducible refine (ks A1 c1 w1 hs1).mono ?_); rintro e w3 ⟨rfl, hb3⟩
                have bb := HB0.out.trans ((hb1.mono HB0.out.size).trans (hb3.mono (HB0.out.trans (hb1.mono HB0.out.size)).size))
                have R3 := Lib.hid ((hb3.block _ (Nat.lt_of_lt_of_le (Array.getElem?_eq_some_iff.1 R0.out).1 hb1.size)).trans ((hb1.block _ (Array.getElem?_eq_some_iff.1 R0.out).1).trans R0.out))))
    | (refine wpList_store_row rfl 26 (.tmp 4) (.tmp 8) rfl w.heap.size (bvs y).toArray rfl rfl 26 (bvs zs20).toArray R3.out ZX.out HZ.out (one_bvs _) ?_))
  refine bodyPost_ret (results_cell_row rfl _ _ _ 26 (bvs y).toArray (0, 0) _ rfl (setRow_heap _ _ _ _ _ _ R3.out) Tryz.underlying26 rfl ZX.out) rfl ?_
  exact ⟨rfl, below_setRow bb _ (Nat.le_refl _) _⟩
end
section
open Go.RowKit
set_option maxRecDepth 100000
set_option maxHeartbeats 1000000
set_option linter.unusedVariables false
/-- what Open hands back -/
def OutO (k : Nat) (l : List UInt8) (e : Nat) (w : World) (z : Ending) (w' : World) : Prop := (∃ A c, z = .returned (.tuple #[.int .i64 (k : Int), .slice A l.length c, .int .i64 (e : Int)]) ∧ l.length ≤ c ∧ (A = none → c = 0) ∧ Bs w' A l) ∧ Below w.heap.size w w'
theorem win_null {w : World} {B e size n c : Nat} {A : Option Addr} {xs : List Value} (h : Win w B e size (.slice A n c) n xs) (hA : A = none) : c = 0 := by
  rcases h.2 with ⟨e1, _⟩ | ⟨g, off, cap, cur, e1, _⟩
  · injection e1 with _ _ e3
  · injection e1 with e2 _ _
    rw [hA] at e2; cases e2
theorem open_any (x : List UInt8) (hx : x.length ≤ 1073741824) (A : Option Addr) (c : Nat) (hc : x.length ≤ c) (h0 : A = none → c = 0) (w : World) (hg : Gb w) (hA : Bs w A x) :
    Calls Tryz.prog 18 #[.slice A x.length c] w (OutO (openI x).1 (openI x).2.1 (openI x).2.2 w) := by
  have ba : Below w.heap.size w (w.alloc (.cells #[.int .u8 0] 5)) := (Below.refl _ _).alloc (Nat.le_refl _) _
  have kc := cutB_any x 0 hx A (some ⟨w.heap.size, 0, none⟩) x.length c 1 rfl hc h0 (w.alloc (.cells #[.int .u8 0] 5)) (hg.below ba) (hA.below ba) (Sl.of_block (heap_alloc_new _ _) (one_byte rfl))
  have HA := Lib.hid hA; have HG := Lib.hid hg; have BA := Lib.hid ba
  obtain ⟨n, hn⟩ : ∃ n, n = x.length := ⟨_, rfl⟩
  have HX := Lib.hid hx; have HC := Lib.hid hc; have HN := Lib.hid hn
  rw [← hn] at kc ⊢
  clear hA hg ba hc h0
  cases h1 : (Lib.cut x [0]).2.2 with
  | false =>
    rw [h1, if_neg (by decide)] at kc
    have HO : Hid (openI x = (0, [], 2)) := Lib.hid (by unfold openI; rw [if_pos h1])
    have ks := fun w (h : Gb w) => cutS_any x [32] hx w h
    obtain ⟨wd, hwd⟩ : ∃ wd, wd = (Lib.cut x [32]).1 := ⟨_, rfl⟩
    obtain ⟨sz, hsz⟩ : ∃ sz, sz = (Lib.cut x [32]).2.1 := ⟨_, rfl⟩
    obtain ⟨two, htwo⟩ : ∃ two, two = (Lib.cut x [32]).2.2 := ⟨_, rfl⟩
    rw [← hwd, ← hsz, ← htwo] at ks
    have kk := fun w => okind_any wd w
    obtain ⟨kn, hkn⟩ : ∃ kn, kn = (kindI wd).1 := ⟨_, rfl⟩
    obtain ⟨is, his⟩ : ∃ is, is = (kindI wd).2 := ⟨_, rfl⟩
    rw [← hkn, ← his] at kk
    clear h1 hwd hsz htwo hkn his hx hn
    have HHD : Hid (∀ w', Below w.heap.size w w' → Bs w' A x) := Lib.hid (fun w' h => HA.out.below h)
    have HHN : Hid (n = x.length) := HN
    go_enter Tryz.func18, Tryz.ntmps18
    go_wp2_with (first
      | (go_at_call 57
         go_loud ((with_reducible refine kc.mono ?_); rintro e w1 ⟨rfl, hb1⟩
                  have bb1 := BA.out.trans (hb1.mono BA.out.size)
                  have hcv := conv34 (c := c) (HHD.out w1 bb1) HHN.out))
      | (go_at_call 58; (with_reducible refine (ks _ (HG.out.below bb1)).mono ?_); rintro e w2 ⟨rfl, hb2⟩
         have bb := bb1.trans (hb2.mono bb1.size))
      | (go_at_call 20; (with_reducible refine (kk _).mono ?_); rintro e w3 ⟨rfl, rfl⟩))
    go_ret3
    refine ⟨?_, bb⟩
    rw [HO.out]
    exact ⟨none, 0, rfl, Nat.le_refl _, fun _ => rfl, Sl.nil _ _⟩
  | true =>
    rw [h1, if_pos rfl] at kc
    obtain ⟨ex, hno⟩ := cut_whole h1
    obtain ⟨hd, hhd⟩ : ∃ hd, hd = (Lib.cut x [0]).1 := ⟨_, rfl⟩
    obtain ⟨b, hb⟩ : ∃ b, b = (Lib.cut x [0]).2.1 := ⟨_, rfl⟩
    rw [← hhd, ← hb] at kc ex
    have HHD : Hid (∀ w', Below w.heap.size w w' → Bs w' A hd) := Lib.hid (fun w' h => by
      have : Bs w' A (x.take hd.length) := Bs.take (HA.out.below h) hd.length
      rwa [ex, List.take_left] at this)
    have HB : Hid (∀ w', Below w.heap.size w w' → Bs w' (cutA A c (hd.length + 1) 1) b) := Lib.hid (fun w' h => by
      have : Bs w' (cutA A c (hd.length + 1) 1) (x.drop (hd.length + 1)) := Bs.cut (HA.out.below h) (hd.length + 1) c HC.out
      rwa [ex, ← List.drop_drop, List.drop_left] at this)
    have hlx := congrArg List.length ex
    rw [List.length_append, List.length_cons] at hlx
    have hdx : hd.length ≤ 1073741824 := by have := HX.out; omega
    have HO : Hid (openI x = if (Lib.cut hd [32]).2.2 = false then (0, [], 2) else if (kindI (Lib.cut hd [32]).1).2 = false then (0, [], 2) else if (Lib.cut hd [32]).2.1 ≠ Lib.decDigits b.length then (0, [], 2) else if 16384 < b.length then (0, [], 5) else ((kindI (Lib.cut hd [32]).1).1, b, 0)) := Lib.hid (by
      unfold openI
      rw [if_neg (by rw [h1]; decide), ← hhd, ← hb])
    have ks := fun w (h : Gb w) => cutS_any hd [32] hdx w h
    obtain ⟨wd, hwd⟩ : ∃ wd, wd = (Lib.cut hd [32]).1 := ⟨_, rfl⟩
    obtain ⟨sz, hsz⟩ : ∃ sz, sz = (Lib.cut hd [32]).2.1 := ⟨_, rfl⟩
    obtain ⟨two, htwo⟩ : ∃ two, two = (Lib.cut hd [32]).2.2 := ⟨_, rfl⟩
    have HO2 := HO.out
    rw [← hwd, ← hsz, ← htwo] at ks HO2
    have kk := fun w => okind_any wd w
    obtain ⟨kn, hkn⟩ : ∃ kn, kn = (kindI wd).1 := ⟨_, rfl⟩
    obtain ⟨is, his⟩ : ∃ is, is = (kindI wd).2 := ⟨_, rfl⟩
    rw [← hkn, ← his] at kk HO2
    have kl := fun w h => cloneB (cutA A c (hd.length + 1) 1) (c - (hd.length + 1)) b w (by have := HX.out; omega) h
    have ki := fun w h => itoa_any b.length (by have := HX.out; omega) w h
    obtain ⟨dd, hdd⟩ : ∃ dd, dd = Lib.decDigits b.length := ⟨_, rfl⟩
    rw [← hdd] at ki HO2
    obtain ⟨m1, hm1⟩ : ∃ m1, m1 = hd.length := ⟨_, rfl⟩
    obtain ⟨m2, hm2⟩ : ∃ m2, m2 = b.length := ⟨_, rfl⟩
    rw [← hm1, ← hm2] at kc
    rw [← hm1, ← hm2] at kl
    rw [← hm2] at ki HO2
    obtain ⟨A2, hA2⟩ : ∃ A2, A2 = cutA A c (m1 + 1) 1 := ⟨_, rfl⟩
    obtain ⟨c2, hc2⟩ : ∃ c2, c2 = c - (m1 + 1) := ⟨_, rfl⟩
    rw [← hm1, ← hA2] at HB
    rw [← hA2, ← hc2] at kc kl
    have HHN : Hid (m1 = hd.length) := Lib.hid hm1
    have HM2 : Hid (m2 = b.length) := Lib.hid hm2
    clear HO h1 ex hno hhd hb hlx hdx hwd hsz htwo hkn his hdd hm1 hm2 hA2 hc2 hx hn
    cases two with
    | false =>
      have HO := Lib.hid (HO2.trans (if_pos rfl))
      clear HO2
      go_enter Tryz.func18, Tryz.ntmps18
      go_wp2_with (first
        | (go_at_call 57
           go_loud ((with_reducible refine kc.mono ?_); rintro e w1 ⟨rfl, hb1⟩
                    have bb1 := BA.out.trans (hb1.mono BA.out.size)
                    have hcv := conv34 (c := c) (HHD.out w1 bb1) HHN.out))
        | (go_at_call 58; (with_reducible refine (ks _ (HG.out.below bb1)).mono ?_); rintro e w2 ⟨rfl, hb2⟩
           have bb := bb1.trans (hb2.mono bb1.size))
        | (go_at_call 20; (with_reducible refine (kk _).mono ?_); rintro e w3 ⟨rfl, rfl⟩)
        | (go_at_call 53; (with_reducible refine (ki _ (HG.out.below bb)).mono ?_); rintro e w4 ⟨rfl, hb4⟩
           have bc := bb.trans (hb4.mono bb.size))
        | (go_at_call 59; (with_reducible refine (kl _ (HB.out _ bc)).mono ?_); rintro e w5 ⟨v5, rfl, hw5, hb5⟩
           have bd := bc.trans (hb5.mono bc.size)
           obtain ⟨A5, c5, rfl, hc5, _, hs5⟩ := hw5.readsN HM2.out.symm)
        | (go_at_call 51; (with_reducible refine (clipB A5 _ c5 hc5 _).mono ?_); rintro e w6 ⟨rfl, rfl⟩))
      go_ret3
      refine ⟨?_, bb⟩
      rw [HO.out]
      exact ⟨none, 0, rfl, Nat.le_refl _, fun _ => rfl, Sl.nil _ _⟩
    | true =>
      rw [if_neg (by decide)] at HO2
      cases is with
      | false =>
        have HO := Lib.hid (HO2.trans (if_pos rfl))
        clear HO2
        go_enter Tryz.func18, Tryz.ntmps18
        go_wp2_with (first
          | (go_at_call 57
             go_loud ((with_reducible refine kc.mono ?_); rintro e w1 ⟨rfl, hb1⟩
                      have bb1 := BA.out.trans (hb1.mono BA.out.size)
                      have hcv := conv34 (c := c) (HHD.out w1 bb1) HHN.out))
          | (go_at_call 58; (with_reducible refine (ks _ (HG.out.below bb1)).mono ?_); rintro e w2 ⟨rfl, hb2⟩
             have bb := bb1.trans (hb2.mono bb1.size))
          | (go_at_call 20; (with_reducible refine (kk _).mono ?_); rintro e w3 ⟨rfl, rfl⟩)
          | (go_at_call 53; (with_reducible refine (ki _ (HG.out.below bb)).mono ?_); rintro e w4 ⟨rfl, hb4⟩
             have bc := bb.trans (hb4.mono bb.size))
          | (go_at_call 59; (with_reducible refine (kl _ (HB.out _ bc)).mono ?_); rintro e w5 ⟨v5, rfl, hw5, hb5⟩
             have bd := bc.trans (hb5.mono bc.size)
             obtain ⟨A5, c5, rfl, hc5, _, hs5⟩ := hw5.readsN HM2.out.symm)
          | (go_at_call 51; (with_reducible refine (clipB A5 _ c5 hc5 _).mono ?_); rintro e w6 ⟨rfl, rfl⟩))
        go_ret3
        refine ⟨?_, bb⟩
        rw [HO.out]
        exact ⟨none, 0, rfl, Nat.le_refl _, fun _ => rfl, Sl.nil _ _⟩
      | true =>
        rw [if_neg (by decide)] at HO2
        by_cases hz : sz = dd
        · have hzz : (sz == dd) = true := by simpa using hz
          have hzn : (sz != dd) = false := by simpa using hz
          rw [if_neg (by simpa using hz)] at HO2
          clear hz
          by_cases hl : 16384 < m2
          · have HO := Lib.hid (HO2.trans (if_pos hl))
            clear HO2
            go_enter Tryz.func18, Tryz.ntmps18
            go_wp2_with (first
              | (go_at_call 57
                 go_loud ((with_reducible refine kc.mono ?_); rintro e w1 ⟨rfl, hb1⟩
                          have bb1 := BA.out.trans (hb1.mono BA.out.size)
                          have hcv := conv34 (c := c) (HHD.out w1 bb1) HHN.out))
              | (go_at_call 58; (with_reducible refine (ks _ (HG.out.below bb1)).mono ?_); rintro e w2 ⟨rfl, hb2⟩
                 have bb := bb1.trans (hb2.mono bb1.size))
              | (go_at_call 20; (with_reducible refine (kk _).mono ?_); rintro e w3 ⟨rfl, rfl⟩)
              | (go_at_call 53; (with_reducible refine (ki _ (HG.out.below bb)).mono ?_); rintro e w4 ⟨rfl, hb4⟩
                 have bc := bb.trans (hb4.mono bb.size))
              | (go_at_call 59; (with_reducible refine (kl _ (HB.out _ bc)).mono ?_); rintro e w5 ⟨v5, rfl, hw5, hb5⟩
                 have bd := bc.trans (hb5.mono bc.size)
                 obtain ⟨A5, c5, rfl, hc5, _, hs5⟩ := hw5.readsN HM2.out.symm)
              | (go_at_call 51; (with_reducible refine (clipB A5 _ c5 hc5 _).mono ?_); rintro e w6 ⟨rfl, rfl⟩))
            go_ret3
            refine ⟨?_, bc⟩
            rw [HO.out]
            exact ⟨none, 0, rfl, Nat.le_refl _, fun _ => rfl, Sl.nil _ _⟩
          · have HO := Lib.hid (HO2.trans (if_neg hl))
            clear HO2
            go_enter Tryz.func18, Tryz.ntmps18
            go_wp2_with (first
              | (go_at_call 57
                 go_loud ((with_reducible refine kc.mono ?_); rintro e w1 ⟨rfl, hb1⟩
                          have bb1 := BA.out.trans (hb1.mono BA.out.size)
                          have hcv := conv34 (c := c) (HHD.out w1 bb1) HHN.out))
              | (go_at_call 58; (with_reducible refine (ks _ (HG.out.below bb1)).mono ?_); rintro e w2 ⟨rfl, hb2⟩
                 have bb := bb1.trans (hb2.mono bb1.size))
              | (go_at_call 20; (with_reducible refine (kk _).mono ?_); rintro e w3 ⟨rfl, rfl⟩)
              | (go_at_call 53; (with_reducible refine (ki _ (HG.out.below bb)).mono ?_); rintro e w4 ⟨rfl, hb4⟩
                 have bc := bb.trans (hb4.mono bb.size))
              | (go_at_call 59; (with_reducible refine (kl _ (HB.out _ bc)).mono ?_); rintro e w5 ⟨v5, rfl, hw5, hb5⟩
                 have bd := bc.trans (hb5.mono bc.size)
                 obtain ⟨A5, c5, rfl, hc5, _, hs5⟩ := hw5.readsN HM2.out.symm)
              | (go_at_call 51; (with_reducible refine (clipB A5 _ c5 hc5 _).mono ?_); rintro e w6 ⟨rfl, rfl⟩))
            go_ret3
            have hw6 := WinB.clip hw5 HM2.out
            refine ⟨?_, bd⟩
            rw [HO.out]
            exact ⟨A5, m2, by rw [HM2.out]; rfl, by rw [HM2.out]; exact Nat.le_refl _, (fun hA => by have h6 : Win w5 w4.heap.size 5 1 (.slice A5 m2 m2) b.length (bvs b) := hw6; rw [← HM2.out] at h6; exact win_null h6 hA), hs5⟩
        · have hzz : (sz == dd) = false := by simpa using hz
          have hzn : (sz != dd) = true := by simpa using hz
          have HO := Lib.hid (HO2.trans (if_pos hz))
          clear HO2 hz
          go_enter Tryz.func18, Tryz.ntmps18
          go_wp2_with (first
            | (go_at_call 57
               go_loud ((with_reducible refine kc.mono ?_); rintro e w1 ⟨rfl, hb1⟩
                        have bb1 := BA.out.trans (hb1.mono BA.out.size)
                        have hcv := conv34 (c := c) (HHD.out w1 bb1) HHN.out))
            | (go_at_call 58; (with_reducible refine (ks _ (HG.out.below bb1)).mono ?_); rintro e w2 ⟨rfl, hb2⟩
               have bb := bb1.trans (hb2.mono bb1.size))
            | (go_at_call 20; (with_reducible refine (kk _).mono ?_); rintro e w3 ⟨rfl, rfl⟩)
            | (go_at_call 53; (with_reducible refine (ki _ (HG.out.below bb)).mono ?_); rintro e w4 ⟨rfl, hb4⟩
               have bc := bb.trans (hb4.mono bb.size))
            | (go_at_call 59; (with_reducible refine (kl _ (HB.out _ bc)).mono ?_); rintro e w5 ⟨v5, rfl, hw5, hb5⟩
               have bd := bc.trans (hb5.mono bc.size)
               obtain ⟨A5, c5, rfl, hc5, _, hs5⟩ := hw5.readsN HM2.out.symm)
            | (go_at_call 51; (with_reducible refine (clipB A5 _ c5 hc5 _).mono ?_); rintro e w6 ⟨rfl, rfl⟩))
          go_ret3
          refine ⟨?_, bc⟩
          rw [HO.out]
          exact ⟨none, 0, rfl, Nat.le_refl _, fun _ => rfl, Sl.nil _ _⟩
end
section
open Go.RowKit
set_option maxRecDepth 100000
set_option maxHeartbeats 1000000
set_option linter.unusedVariables false
theorem ib_lt {s : List UInt8} {c : UInt8} : decide (Lib.indexByte s c < 0) = !(s.contains c) := by
  rcases two_ways c s with h | ⟨a, b, rfl, h⟩
  · rw [ib_none h]
    have : s.contains c = false := by simpa using h
    rw [this]; rfl
  · rw [ib_some b h]
    have : (a ++ c :: b).contains c = true := by simp
    rw [this]
    simp
theorem text_any (s : List UInt8) (most : Nat) (w : World) (hs : s.length ≤ 1073741824) (hm : most ≤ 1000) : Calls Tryz.prog 106 #[.string (bstr s), .int .i64 (most : Int)] w fun e w' => e = .returned (.bool (textI s most)) ∧ w = w' := by
  have ssz : (bstr s).size = s.length := bstr_size s
  have k0 : ∀ w, Calls Tryz.prog 111 #[.string (bstr s), .int .u8 0] w fun e w' => e = .returned (.int .i64 (Lib.indexByte s 0)) ∧ w = w' := fun w => idxS_any s 0 w
  have k1 : ∀ w, Calls Tryz.prog 111 #[.string (bstr s), .int .u8 10] w fun e w' => e = .returned (.int .i64 (Lib.indexByte s 10)) ∧ w = w' := fun w => idxS_any s 10 w
  have i0 : decide (Lib.indexByte s 0 < 0) = !(s.contains 0) := ib_lt
  have i1 : decide (Lib.indexByte s 10 < 0) = !(s.contains 10) := ib_lt
  obtain ⟨x, hx⟩ : ∃ x, x = Lib.indexByte s 0 := ⟨_, rfl⟩
  obtain ⟨y, hy⟩ : ∃ y, y = Lib.indexByte s 10 := ⟨_, rfl⟩
  obtain ⟨p, hp⟩ : ∃ p, p = !(s.contains 0) := ⟨_, rfl⟩
  obtain ⟨q, hq⟩ : ∃ q, q = !(s.contains 10) := ⟨_, rfl⟩
  rw [← hx] at k0 i0
  rw [← hy] at k1 i1
  rw [← hp] at i0
  rw [← hq] at i1
  have HT : Hid (textI s most = (!(s == []) && decide (s.length ≤ most) && p && q)) := Lib.hid (by unfold textI; rw [← hp, ← hq])
  clear hx hy hp hq
  by_cases h0 : s = []
  · subst h0
    go_enter Tryz.func106, Tryz.ntmps106
    go_wp2
    go_ret
    exact ⟨by rw [HT.out]; rfl, rfl⟩
  · have e0 : s.isEmpty = false := by simpa using h0
    have e1 : (s == ([] : List UInt8)) = false := by simpa using h0
    have HE := Lib.hid e1
    by_cases h1 : s.length ≤ most
    · have d1 : decide (s.length ≤ most) = true := decide_eq_true h1
      have HD := Lib.hid d1
      clear d1
      cases p with
      | false =>
        go_enter Tryz.func106, Tryz.ntmps106
        go_wp2_with (go_at_call 111; (with_reducible refine (k0 _).mono ?_); rintro e w1 ⟨rfl, rfl⟩)
        go_ret
        exact ⟨by rw [HT.out, HE.out, HD.out]; rfl, rfl⟩
      | true =>
        go_enter Tryz.func106, Tryz.ntmps106
        go_wp2_with (first
          | (go_at_call 111; (with_reducible refine (k0 _).mono ?_); rintro e w1 ⟨rfl, rfl⟩)
          | (go_at_call 111; (with_reducible refine (k1 _).mono ?_); rintro e w1 ⟨rfl, rfl⟩))
        go_ret
        exact ⟨by rw [HT.out, HE.out, HD.out]; rfl, rfl⟩
    · have d1 : decide (s.length ≤ most) = false := decide_eq_false h1
      have HD := Lib.hid d1
      clear d1
      go_enter Tryz.func106, Tryz.ntmps106
      go_wp2
      go_ret
      exact ⟨by rw [HT.out, HE.out, HD.out]; rfl, rfl⟩
end
section
open Go.RowKit
set_option maxRecDepth 100000
set_option maxHeartbeats 1000000
set_option linter.unusedVariables false
/-- an entry: mode, name, id -/
structure En where
  mode : Int
  name : List UInt8
  id : List UInt8
def ecell (e : En) : List Value := .int .i64 e.mode :: .string (bstr e.name) :: bvs e.id
abbrev ev (e : En) : Value := .agg (ecell e).toArray
theorem ecell_len {e : En} (h : e.id.length = 20) : (ecell e).length = 22 := by simp [ecell, h]
theorem en_mode {w : World} {ad : Addr} {e : En} (h : Sl w (some ad) (ecell e)) : w.cell? ad = some (.int .i64 e.mode) := by
  obtain ⟨ad', q, hc⟩ := h 0 _ rfl
  injection q with q
  subst q
  simpa [Addr.add] using hc
theorem en_name {w : World} {ad : Addr} {e : En} (h : Sl w (some ad) (ecell e)) : w.cell? (ad.add 1) = some (.string (bstr e.name)) := by
  obtain ⟨ad', q, hc⟩ := h 1 _ rfl
  injection q with q
  subst q
  exact hc
theorem key_any (e : En) (hs : e.name.length ≤ 1073741824) (w : World) :
    Calls Tryz.prog 60 #[ev e] w fun z w' => z = .returned (.string (bstr (keyI e.mode e.name))) ∧ Below w.heap.size w w' := by
  obtain ⟨W0, hW0⟩ : ∃ W0, W0 = w.alloc (.cells (ecell e).toArray 40) := ⟨_, rfl⟩
  have hb0 : Below w.heap.size w W0 := by rw [hW0]; exact (Below.refl _ _).alloc (Nat.le_refl _) _
  have r0 : W0.heap[w.heap.size]? = some (.cells (ecell e).toArray 40 (0, 0)) := by rw [hW0]; exact heap_alloc_new _ _
  have h0 : W0.cell? ⟨w.heap.size, 0, none⟩ = some (.int .i64 e.mode) := by rw [cell_of_row _ _ _ _ _ _ r0]; rfl
  have h1 : W0.cell? ⟨w.heap.size, 1, none⟩ = some (.string (bstr e.name)) := by rw [cell_of_row _ _ _ _ _ _ r0]; rfl
  obtain ⟨m, hm⟩ : ∃ m, m = e.mode := ⟨_, rfl⟩
  obtain ⟨s, hse⟩ : ∃ s, s = e.name := ⟨_, rfl⟩
  rw [← hm] at h0
  rw [← hse] at h1 hs
  rw [← hm, ← hse]
  have HW0 := Lib.hid hW0; have HB0 := Lib.hid hb0
  clear hW0 hb0 r0 hm hse
  by_cases h : m = 16384
  · have t : (m == 16384) = true := by simpa using h
    have K : Hid (keyI m s = s ++ [47]) := Lib.hid (by unfold keyI; rw [if_pos h])
    have hadd : (bstr s ++ ⟨#[47]⟩ : ByteArray) = bstr (s ++ [47]) := bstr_app s [47]
    have HA := Lib.hid hadd
    clear h hadd
    go_enter Tryz.func60, Tryz.ntmps60
    go_upto_region 1 with fail
    rw [← HW0.out]
    go_wp2
    go_ret
    exact ⟨by rw [K.out, ← HA.out]; rfl, HB0.out⟩
  · have t : (m == 16384) = false := by simpa using h
    have K : Hid (keyI m s = s) := Lib.hid (by unfold keyI; rw [if_neg h])
    clear h
    go_enter Tryz.func60, Tryz.ntmps60
    go_upto_region 1 with fail
    rw [← HW0.out]
    go_wp2
    go_ret
    exact ⟨by rw [K.out]; rfl, HB0.out⟩
end
section
open Go.RowKit
set_option maxRecDepth 100000
set_option maxHeartbeats 1000000
set_option linter.unusedVariables false
/-- -1, 0, 1 -/
def ordI (a b : List UInt8) : Int := if a < b then -1 else if b < a then 1 else 0
theorem sbless (a b : List UInt8) : Op.bytesLess a b = decide (a < b) := Go.Proofs.bytesLess_eq a b
theorem nan_any (s : List UInt8) (w : World) : Calls Tryz.prog 105 #[.string (bstr s)] w fun e w' => e = .returned (.bool false) ∧ w = w' := by
  have t : (s != s) = false := by simp
  go_enter Tryz.func105, Tryz.ntmps105
  go_wp2
  go_ret
  exact ⟨rfl, rfl⟩
theorem cmpS_any (a b : List UInt8) (w : World) : Calls Tryz.prog 61 #[.string (bstr a), .string (bstr b)] w fun e w' => e = .returned (.int .i64 (ordI a b)) ∧ w = w' := by
  have ka := fun w => nan_any a w
  have kb := fun w => nan_any b w
  by_cases h1 : a < b
  · have r1 : Op.bytesLess a b = true := by rw [sbless]; exact decide_eq_true h1
    have K : Hid (ordI a b = -1) := Lib.hid (by unfold ordI; rw [if_pos h1])
    clear h1
    go_enter Tryz.func61, Tryz.ntmps61
    go_wp2_with (first
      | (go_at_call 105; (with_reducible refine (ka _).mono ?_); rintro e w1 ⟨rfl, rfl⟩)
      | (go_at_call 105; (with_reducible refine (kb _).mono ?_); rintro e w1 ⟨rfl, rfl⟩))
    go_ret
    exact ⟨by rw [K.out]; rfl, rfl⟩
  · have r1 : Op.bytesLess a b = false := by rw [sbless]; exact decide_eq_false h1
    by_cases h2 : b < a
    · have r2 : (a == b) = false := by
        simp only [beq_eq_false_iff_ne, ne_eq]
        intro e
        subst e
        exact List.lt_irrefl _ h2
      have K : Hid (ordI a b = 1) := Lib.hid (by unfold ordI; rw [if_neg h1, if_pos h2])
      clear h1 h2
      go_enter Tryz.func61, Tryz.ntmps61
      go_wp2_with (first
        | (go_at_call 105; (with_reducible refine (ka _).mono ?_); rintro e w1 ⟨rfl, rfl⟩)
        | (go_at_call 105; (with_reducible refine (kb _).mono ?_); rintro e w1 ⟨rfl, rfl⟩))
      go_ret
      exact ⟨by rw [K.out]; rfl, rfl⟩
    · have r2 : (a == b) = true := by
        rw [beq_iff_eq]
        exact List.le_antisymm (List.not_lt.1 h2) (List.not_lt.1 h1)
      have K : Hid (ordI a b = 0) := Lib.hid (by unfold ordI; rw [if_neg h1, if_neg h2])
      clear h1 h2
      go_enter Tryz.func61, Tryz.ntmps61
      go_wp2_with (first
        | (go_at_call 105; (with_reducible refine (ka _).mono ?_); rintro e w1 ⟨rfl, rfl⟩)
        | (go_at_call 105; (with_reducible refine (kb _).mono ?_); rintro e w1 ⟨rfl, rfl⟩))
      go_ret
      exact ⟨by rw [K.out]; rfl, rfl⟩
end
section
open Go.RowKit
set_option maxRecDepth 100000
set_option maxHeartbeats 1000000
set_option linter.unusedVariables false
theorem load_ent {w : World} {ad : Addr} {e : En} (h20 : e.id.length = 20) (h : Sl w (some ad) (ecell e)) : (loadVar 40 ad).run Tryz.prog w = .ok (ev e) w := by
  have hl : (loadCells ad (ecell e).length).run Tryz.prog w = .ok (ecell e).toArray w :=
    run_loadCells_list (P := Tryz.prog) w ad (ecell e) (fun j v hv => by obtain ⟨ad', q, hc⟩ := h j v hv; injection q with q; subst q; exact hc)
  rw [ecell_len h20] at hl
  have hagg : (isAgg 40).run Tryz.prog w = .ok true w := by kernel_rfl
  simp [loadVar, Sem.run_bind, hagg, hl]
theorem order_any (a b : En) (ha : a.id.length = 20) (hb : b.id.length = 20) (hs : a.name.length ≤ 1073741824) (ht : b.name.length ≤ 1073741824) (w : World) :
    Calls Tryz.prog 22 #[ev a, ev b] w fun z w' => z = .returned (.int .i64 (ordI (keyI a.mode a.name) (keyI b.mode b.name))) ∧ Below w.heap.size w w' := by
  obtain ⟨W0, hW0⟩ : ∃ W0, W0 = (w.alloc (.cells (ecell a).toArray 40)).alloc (.cells (ecell b).toArray 40) := ⟨_, rfl⟩
  have b1 : Below w.heap.size w (w.alloc (.cells (ecell a).toArray 40)) := (Below.refl _ _).alloc (Nat.le_refl _) _
  have b2 : Below (w.alloc (.cells (ecell a).toArray 40)).heap.size (w.alloc (.cells (ecell a).toArray 40)) W0 := by rw [hW0]; exact (Below.refl _ _).alloc (Nat.le_refl _) _
  have s1 : Sl W0 (some ⟨w.heap.size, 0, none⟩) (ecell a) := Sl.below (Sl.of_block (heap_alloc_new _ _) (fun j v hj => by simpa using hj)) b2
  have s2 : Sl W0 (some ⟨w.heap.size + 1, 0, none⟩) (ecell b) := by
    have := Sl.of_block (off := 0) (l := ecell b) (heap_alloc_new (w.alloc (.cells (ecell a).toArray 40)) (.cells (ecell b).toArray 40)) (fun j v hj => by simpa using hj)
    rw [← hW0] at this
    simpa using this
  have l1 : ∀ w', Below W0.heap.size W0 w' → (loadVar 40 ⟨w.heap.size, 0, none⟩).run Tryz.prog w' = .ok (ev a) w' := fun w' h => load_ent ha (s1.below h)
  have l2 : ∀ w', Below W0.heap.size W0 w' → (loadVar 40 ⟨w.heap.size + 1, 0, none⟩).run Tryz.prog w' = .ok (ev b) w' := fun w' h => load_ent hb (s2.below h)
  have c1 : ∀ w', Below W0.heap.size W0 w' → Calls Tryz.prog 60 #[ev a] w' fun e w'' => e = .returned (.string (bstr (keyI a.mode a.name))) ∧ Below W0.heap.size W0 w'' := fun w' h => quietB h (key_any a hs w')
  have c2 : ∀ w', Below W0.heap.size W0 w' → Calls Tryz.prog 60 #[ev b] w' fun e w'' => e = .returned (.string (bstr (keyI b.mode b.name))) ∧ Below W0.heap.size W0 w'' := fun w' h => quietB h (key_any b ht w')
  have c3 : ∀ w', Below W0.heap.size W0 w' → Calls Tryz.prog 61 #[.string (bstr (keyI a.mode a.name)), .string (bstr (keyI b.mode b.name))] w' fun e w'' => e = .returned (.int .i64 (ordI (keyI a.mode a.name) (keyI b.mode b.name))) ∧ Below W0.heap.size W0 w'' := fun w' h => quietS h (cmpS_any _ _ w')
  have bw : Below w.heap.size w W0 := b1.trans (b2.mono b1.size)
  have HW0 := Lib.hid hW0; have BW := Lib.hid bw; have L1 := Lib.hid l1; have L2 := Lib.hid l2
  obtain ⟨va, hva⟩ : ∃ va, va = ev a := ⟨_, rfl⟩
  obtain ⟨vb, hvb⟩ : ∃ vb, vb = ev b := ⟨_, rfl⟩
  obtain ⟨x, hx⟩ : ∃ x, x = keyI a.mode a.name := ⟨_, rfl⟩
  obtain ⟨y, hy⟩ : ∃ y, y = keyI b.mode b.name := ⟨_, rfl⟩
  rw [← hx] at c1
  rw [← hy] at c2
  rw [← hx, ← hy] at c3 ⊢
  clear hW0 bw b1 b2 s1 s2 l1 l2 hva hvb hx hy
  go_enter Tryz.func22, Tryz.ntmps22
  go_upto_region 2 with fail
  rw [← HW0.out]
  refine wp_region_quietC (C := fun w' => Below W0.heap.size W0 w') (Below.refl _ _).drew (by kernel_rfl) (by kernel_rfl) ?_
  go_big_quiet_step ((intro hb; rfl))
  (refine wpQuiet_load 40 (.tmp 2) rfl ⟨w.heap.size, 0, none⟩ rfl (ev a) L1.out _ rfl rfl ?_; simp only [List.set_cons_succ, List.set_cons_zero])
  go_big_quiet_step ((intro hb; (with_reducible exact c1 _ hb)))
  go_big_quiet_step ((intro hb; rfl))
  (refine wpQuiet_load 40 (.tmp 3) rfl ⟨w.heap.size + 1, 0, none⟩ rfl (ev b) L2.out _ rfl rfl ?_; simp only [List.set_cons_succ, List.set_cons_zero])
  go_big_quiet_step ((intro hb; (with_reducible exact c2 _ hb)))
  go_big_quiet_step ((intro hb; (with_reducible exact c3 _ hb)))
  go_big_quiet_step ((intro hb; rfl))
  refine wpQuiet_nil ?_
  intro w' hw'
  go_wp2
  go_ret
  exact ⟨rfl, BW.out.trans (hw'.mono BW.out.size)⟩
end
section
open Go.RowKit
set_option maxRecDepth 100000
set_option maxHeartbeats 1000000
set_option linter.unusedVariables false
/-- bytes and an error -/
def OutB (l : List UInt8) (e : Nat) (w : World) (z : Ending) (w' : World) : Prop := (∃ A c, z = .returned (.tuple #[.slice A l.length c, .int .i64 (e : Int)]) ∧ l.length ≤ c ∧ Bs w' A l) ∧ Below w.heap.size w w'
def wholeI (s : List UInt8) : List UInt8 × Nat := if 16384 < s.length then ([], 5) else (s, 0)
theorem whole_any (s : List UInt8) (hs : s.length ≤ 1073741824) (w : World) : Calls Tryz.prog 65 #[.string (bstr s)] w (OutB (wholeI s).1 (wholeI s).2 w) := by
  have ssz : (bstr s).size = s.length := bstr_size s
  by_cases h : 16384 < s.length
  · have e : Hid (wholeI s = ([], 5)) := Lib.hid (if_pos h)
    go_enter Tryz.func65, Tryz.ntmps65
    go_wp2
    go_ret2
    rw [e.out]
    exact ⟨⟨none, 0, rfl, Nat.le_refl _, Sl.nil _ _⟩, Below.refl _ _⟩
  · have e : Hid (wholeI s = (s, 0)) := Lib.hid (if_neg h)
    obtain ⟨W1, c1, hcv, hb3, hs3, hc3, _⟩ := bytes_new s w
    have HB := Lib.hid hb3; have HS := Lib.hid hs3; have HC := Lib.hid hc3
    clear hb3 hs3 hc3
    go_enter Tryz.func65, Tryz.ntmps65
    go_wp2
    go_ret2
    rw [e.out]
    exact ⟨⟨_, c1, rfl, HC.out, HS.out⟩, HB.out⟩
end
section
open Go.RowKit
set_option maxRecDepth 100000
set_option maxHeartbeats 1000000
set_option linter.unusedVariables false
def LRow (w : World) (g : Nat) (l : Ln) : Prop := w.heap[g]? = some (.cells #[.string (bstr l.s), .bool l.bad] 128 (0, 0))
theorem lnext_any (g : Nat) (l : Ln) (front : List UInt8) (hl : l.s.length ≤ 1073741824) (w : World) (hg : Gb w) (hr : LRow w g l) :
    Calls Tryz.prog 75 #[.pointer (some ⟨g, 0, none⟩), .string (bstr front)] w fun e w' => e = .returned (.tuple #[.string (bstr (nextI l front).1), .bool (nextI l front).2.1]) ∧ LRow w' g (nextI l front).2.2 ∧ Kp (fun k => k = g) w w' := by
  obtain ⟨s, bad⟩ := l
  have h0 : w.cell? ⟨g, 0, none⟩ = some (.string (bstr s)) := by rw [cell_of_row _ _ _ _ _ _ hr]; rfl
  have kc := cutS_any s [10] hl w hg
  have hgl : g < w.heap.size := (Array.getElem?_eq_some_iff.1 hr).1
  obtain ⟨ln, hln⟩ : ∃ ln, ln = (Lib.cut s [10]).1 := ⟨_, rfl⟩
  obtain ⟨rs, hrs⟩ : ∃ rs, rs = (Lib.cut s [10]).2.1 := ⟨_, rfl⟩
  obtain ⟨ok, hok⟩ : ∃ ok, ok = (Lib.cut s [10]).2.2 := ⟨_, rfl⟩
  have HN : Hid (nextI ⟨s, bad⟩ front = if ok = true ∧ Lib.hasPrefix ln front = true then (ln.drop front.length, true, ⟨rs, bad⟩) else ([], false, ⟨s, bad⟩)) := Lib.hid (by unfold nextI; rw [hln, hrs, hok])
  rw [← hln, ← hrs, ← hok] at kc
  have kp := fun w => pref_any ln front w
  obtain ⟨pf, hpf⟩ : ∃ pf, pf = Lib.hasPrefix ln front := ⟨_, rfl⟩
  obtain ⟨tp, htp⟩ : ∃ tp, tp = Lib.trimPrefix ln front := ⟨_, rfl⟩
  have hN := HN.out
  rw [← hpf] at hN
  rw [← hpf, ← htp] at kp
  have HR := Lib.hid hr
  have T : Hid (pf = true → tp = ln.drop front.length) := Lib.hid (fun h => by rw [htp]; unfold Lib.trimPrefix; rw [← hpf, h]; rfl)
  clear HN hln hrs hok hpf htp hr
  cases ok with
  | false =>
    have K := Lib.hid hN
    clear hN
    go_enter Tryz.func75, Tryz.ntmps75
    go_wp2_with (first
      | (go_at_call 58; (with_reducible refine kc.mono ?_); rintro e w1 ⟨rfl, hb1⟩)
      | (go_at_call 110; (with_reducible refine (kp _).mono ?_); rintro e w2 ⟨rfl, rfl⟩))
    go_ret2
    rw [K.out, if_neg (by simp)]
    exact ⟨rfl, (hb1.block _ hgl).trans HR.out, Kp.ofBelow hb1⟩
  | true =>
    cases pf with
    | false =>
      have K := Lib.hid hN
      clear hN
      go_enter Tryz.func75, Tryz.ntmps75
      go_wp2_with (first
        | (go_at_call 58; (with_reducible refine kc.mono ?_); rintro e w1 ⟨rfl, hb1⟩)
        | (go_at_call 110; (with_reducible refine (kp _).mono ?_); rintro e w2 ⟨rfl, rfl⟩))
      go_ret2
      rw [K.out, if_neg (by simp)]
      exact ⟨rfl, (hb1.block _ hgl).trans HR.out, Kp.ofBelow hb1⟩
    | true =>
      have K := Lib.hid (hN.trans (if_pos ⟨rfl, rfl⟩))
      have TT := Lib.hid (T.out rfl)
      clear hN T
      go_enter Tryz.func75, Tryz.ntmps75
      go_wp2_with (first
        | (go_at_call 58; (with_reducible refine kc.mono ?_); rintro e w1 ⟨rfl, hb1⟩
           have r1 := Lib.hid ((hb1.block _ hgl).trans HR.out)
           have c1 : w1.cell? ⟨g, 0, none⟩ = some (.string (bstr s)) := by rw [cell_of_row _ _ _ _ _ _ r1.out]; rfl
           have f1 : w1.frozen? ⟨g, 0, none⟩ = false := frozen_of_row w1 g 0 _ _ r1.out)
        | (go_at_call 110; (with_reducible refine (kp _).mono ?_); rintro e w2 ⟨rfl, rfl⟩))
      go_ret2
      rw [K.out, TT.out]
      exact ⟨rfl, heap_setCell_same _ _ _ _ _ _ r1.out, (Kp.ofBelow hb1).step (Kp.setCell (Kp.refl (fun k => k = g) _) (.inl rfl) _) (fun i _ h => h)⟩
theorem lmust_any (g : Nat) (l : Ln) (front : List UInt8) (hl : l.s.length ≤ 1073741824) (w : World) (hg : Gb w) (hr : LRow w g l) :
    Calls Tryz.prog 74 #[.pointer (some ⟨g, 0, none⟩), .string (bstr front)] w fun e w' => e = .returned (.string (bstr (mustI l front).1)) ∧ LRow w' g (mustI l front).2 ∧ Kp (fun k => k = g) w w' := by
  have kn := lnext_any g l front hl w hg hr
  obtain ⟨v, hv⟩ : ∃ v, v = (nextI l front).1 := ⟨_, rfl⟩
  obtain ⟨ok, hok⟩ : ∃ ok, ok = (nextI l front).2.1 := ⟨_, rfl⟩
  obtain ⟨m, hm⟩ : ∃ m, m = (nextI l front).2.2 := ⟨_, rfl⟩
  have hbm : m.bad = l.bad := by rw [hm]; unfold nextI; split <;> rfl
  have HM : Hid (mustI l front = (v, ⟨m.s, l.bad || !ok⟩)) := Lib.hid (by unfold mustI; rw [hv, hok, hm])
  rw [← hv, ← hok, ← hm] at kn
  obtain ⟨s, bad⟩ := m
  have hb2 : l.bad = bad := hbm.symm
  rw [hb2] at HM
  clear hv hok hm hbm hb2 hl hr
  rw [HM.out]
  cases bad with
  | false =>
    cases ok with
    | false =>
      go_enter Tryz.func74, Tryz.ntmps74
      go_wp2_with (go_at_call 75; (with_reducible refine kn.mono ?_); rintro e w1 ⟨rfl, hr1, hk1⟩
                   have r1 := Lib.hid hr1
                   have c1 : w1.cell? ⟨g, 1, none⟩ = some (.bool false) := by rw [cell_of_row _ _ _ _ _ _ r1.out]; rfl
                   have f1 : w1.frozen? ⟨g, 1, none⟩ = false := frozen_of_row w1 g 1 _ _ r1.out)
      go_ret
      exact ⟨rfl, heap_setCell_same _ _ _ _ _ _ r1.out, hk1.step (Kp.setCell (Kp.refl (fun k => k = g) _) (.inl rfl) _) (fun i _ h => h)⟩
    | true =>
      go_enter Tryz.func74, Tryz.ntmps74
      go_wp2_with (go_at_call 75; (with_reducible refine kn.mono ?_); rintro e w1 ⟨rfl, hr1, hk1⟩
                   have r1 := Lib.hid hr1
                   have c1 : w1.cell? ⟨g, 1, none⟩ = some (.bool false) := by rw [cell_of_row _ _ _ _ _ _ r1.out]; rfl
                   have f1 : w1.frozen? ⟨g, 1, none⟩ = false := frozen_of_row w1 g 1 _ _ r1.out)
      go_ret
      exact ⟨rfl, heap_setCell_same _ _ _ _ _ _ r1.out, hk1.step (Kp.setCell (Kp.refl (fun k => k = g) _) (.inl rfl) _) (fun i _ h => h)⟩
  | true =>
    cases ok with
    | false =>
      go_enter Tryz.func74, Tryz.ntmps74
      go_wp2_with (go_at_call 75; (with_reducible refine kn.mono ?_); rintro e w1 ⟨rfl, hr1, hk1⟩
                   have r1 := Lib.hid hr1
                   have c1 : w1.cell? ⟨g, 1, none⟩ = some (.bool true) := by rw [cell_of_row _ _ _ _ _ _ r1.out]; rfl
                   have f1 : w1.frozen? ⟨g, 1, none⟩ = false := frozen_of_row w1 g 1 _ _ r1.out)
      go_ret
      exact ⟨rfl, heap_setCell_same _ _ _ _ _ _ r1.out, hk1.step (Kp.setCell (Kp.refl (fun k => k = g) _) (.inl rfl) _) (fun i _ h => h)⟩
    | true =>
      go_enter Tryz.func74, Tryz.ntmps74
      go_wp2_with (go_at_call 75; (with_reducible refine kn.mono ?_); rintro e w1 ⟨rfl, hr1, hk1⟩
                   have r1 := Lib.hid hr1
                   have c1 : w1.cell? ⟨g, 1, none⟩ = some (.bool true) := by rw [cell_of_row _ _ _ _ _ _ r1.out]; rfl
                   have f1 : w1.frozen? ⟨g, 1, none⟩ = false := frozen_of_row w1 g 1 _ _ r1.out)
      go_ret
      exact ⟨rfl, heap_setCell_same _ _ _ _ _ _ r1.out, hk1.step (Kp.setCell (Kp.refl (fun k => k = g) _) (.inl rfl) _) (fun i _ h => h)⟩
theorem lempty_any (g : Nat) (l : Ln) (hl : l.s.length ≤ 1073741824) (w : World) (hg : Gb w) (hr : LRow w g l) :
    Calls Tryz.prog 76 #[.pointer (some ⟨g, 0, none⟩)] w fun e w' => e = .returned (.tuple #[]) ∧ LRow w' g (emptyI l) ∧ Kp (fun k => k = g) w w' := by
  have kn : Calls Tryz.prog 74 #[.pointer (some ⟨g, 0, none⟩), .string ⟨#[]⟩] w fun e w' => e = .returned (.string (bstr (mustI l []).1)) ∧ LRow w' g (mustI l []).2 ∧ Kp (fun k => k = g) w w' := lmust_any g l [] hl w hg hr
  obtain ⟨v, hv⟩ : ∃ v, v = (mustI l []).1 := ⟨_, rfl⟩
  obtain ⟨m, hm⟩ : ∃ m, m = (mustI l []).2 := ⟨_, rfl⟩
  have HM : Hid (emptyI l = ⟨m.s, m.bad || !(v == [])⟩) := Lib.hid (by unfold emptyI; rw [hv, hm])
  rw [← hv, ← hm] at kn
  obtain ⟨s, bad⟩ := m
  clear hv hm hl hr
  rw [HM.out]
  cases v with
  | nil =>
    cases bad with
    | false =>
      go_enter Tryz.func76, Tryz.ntmps76
      go_wp2_with (go_at_call 74; (with_reducible refine kn.mono ?_); rintro e w1 ⟨rfl, hr1, hk1⟩
                   have r1 := Lib.hid hr1
                   have c1 : w1.cell? ⟨g, 1, none⟩ = some (.bool false) := by rw [cell_of_row _ _ _ _ _ _ r1.out]; rfl
                   have f1 : w1.frozen? ⟨g, 1, none⟩ = false := frozen_of_row w1 g 1 _ _ r1.out)
      go_end0
      exact ⟨rfl, heap_setCell_same _ _ _ _ _ _ r1.out, hk1.step (Kp.setCell (Kp.refl (fun k => k = g) _) (.inl rfl) _) (fun i _ h => h)⟩
    | true =>
      go_enter Tryz.func76, Tryz.ntmps76
      go_wp2_with (go_at_call 74; (with_reducible refine kn.mono ?_); rintro e w1 ⟨rfl, hr1, hk1⟩
                   have r1 := Lib.hid hr1
                   have c1 : w1.cell? ⟨g, 1, none⟩ = some (.bool true) := by rw [cell_of_row _ _ _ _ _ _ r1.out]; rfl
                   have f1 : w1.frozen? ⟨g, 1, none⟩ = false := frozen_of_row w1 g 1 _ _ r1.out)
      go_end0
      exact ⟨rfl, heap_setCell_same _ _ _ _ _ _ r1.out, hk1.step (Kp.setCell (Kp.refl (fun k => k = g) _) (.inl rfl) _) (fun i _ h => h)⟩
  | cons x t =>
    have e0 : ((x :: t : List UInt8) == []) = false := by simp
    cases bad with
    | false =>
      go_enter Tryz.func76, Tryz.ntmps76
      go_wp2_with (go_at_call 74; (with_reducible refine kn.mono ?_); rintro e w1 ⟨rfl, hr1, hk1⟩
                   have r1 := Lib.hid hr1
                   have c1 : w1.cell? ⟨g, 1, none⟩ = some (.bool false) := by rw [cell_of_row _ _ _ _ _ _ r1.out]; rfl
                   have f1 : w1.frozen? ⟨g, 1, none⟩ = false := frozen_of_row w1 g 1 _ _ r1.out)
      go_end0
      exact ⟨rfl, heap_setCell_same _ _ _ _ _ _ r1.out, hk1.step (Kp.setCell (Kp.refl (fun k => k = g) _) (.inl rfl) _) (fun i _ h => h)⟩
    | true =>
      go_enter Tryz.func76, Tryz.ntmps76
      go_wp2_with (go_at_call 74; (with_reducible refine kn.mono ?_); rintro e w1 ⟨rfl, hr1, hk1⟩
                   have r1 := Lib.hid hr1
                   have c1 : w1.cell? ⟨g, 1, none⟩ = some (.bool true) := by rw [cell_of_row _ _ _ _ _ _ r1.out]; rfl
                   have f1 : w1.frozen? ⟨g, 1, none⟩ = false := frozen_of_row w1 g 1 _ _ r1.out)
      go_end0
      exact ⟨rfl, heap_setCell_same _ _ _ _ _ _ r1.out, hk1.step (Kp.setCell (Kp.refl (fun k => k = g) _) (.inl rfl) _) (fun i _ h => h)⟩
end
section
open Go.RowKit
set_option maxRecDepth 100000
set_option maxHeartbeats 4000000
set_option linter.unusedVariables false
theorem check_fresh (b : Nat) (w : World) (h0 : w.cell? ⟨b, 0, none⟩ = some (.pointer none)) (hsh : w.shape? b = some (113, 2)) (hfz : w.frozen? ⟨b, 0, none⟩ = false) :
    Calls Tryz.prog 107 #[.pointer (some ⟨b, 0, none⟩)] w fun e w' => e = .returned (.tuple #[]) ∧ w' = w.setCell ⟨b, 0, none⟩ (.pointer (some ⟨b, 0, none⟩)) := by
  have hsz : (Tryz.prog.info? 113).map (·.size) = some 2 := by kernel_rfl
  obtain ⟨j, hj, hjs⟩ := Option.map_eq_some_iff.1 hsz
  go_enter Tryz.func107, Tryz.ntmps107
  go_wp2
  rw [Lib.run_to_unsafe w ⟨b, 0, none⟩ Tryz.underlying111 Tryz.underlying185 hj (by rw [hjs]; decide) hsh (Nat.zero_lt_succ 1)]
  simp only [Result.andThen]
  rw [Oper.upon_value]
  go_wp2
  rw [run_callFunc_extern Tryz.func133 (by kernel_rfl) (by kernel_rfl) (by kernel_rfl) (e := Extern.AbiNoEscape.same) (by kernel_rfl)]
  rw [Lib.run_noEscape]
  simp only [Result.andThen]
  rw [Oper.upon_value]
  go_wp2
  rw [Lib.run_from_unsafe w ⟨b, 0, none⟩ Tryz.underlying185 Tryz.underlying111 hj hsh (by kernel_rfl)]
  simp only [Result.andThen]
  rw [Oper.upon_value]
  go_wp2
  go_end0
  exact ⟨rfl, rfl⟩
theorem check_used (b : Nat) (w : World) (h0 : w.cell? ⟨b, 0, none⟩ = some (.pointer (some ⟨b, 0, none⟩))) :
    Calls Tryz.prog 107 #[.pointer (some ⟨b, 0, none⟩)] w fun e w' => e = .returned (.tuple #[]) ∧ w' = w := by
  have hsz : (Tryz.prog.info? 113).map (·.size) = some 2 := by kernel_rfl
  obtain ⟨j, hj, hjs⟩ := Option.map_eq_some_iff.1 hsz
  go_enter Tryz.func107, Tryz.ntmps107
  go_wp2
  rw [Lib.run_neq_ptr_same w _ Tryz.underlying111 hj]
  go_wp2
  go_end0
  exact ⟨rfl, rfl⟩
theorem check_any (B b : Nat) (bs : List Value) (w : World) (h : Lib.IsBuilder 113 5 B b bs w) :
    Calls Tryz.prog 107 #[.pointer (some ⟨b, 0, none⟩)] w fun e w' => e = .returned (.tuple #[]) ∧ (Lib.BuilderAt 113 5 B b (.pointer (some ⟨b, 0, none⟩)) bs w' ∧ Below B w w') := by
  rcases h with h | h
  · refine (check_fresh b w h.cell0 h.shape h.frozen0).mono ?_
    rintro e w' ⟨rfl, rfl⟩
    exact ⟨rfl, h.used _, (Below.refl B w).setCell (p := ⟨b, 0, none⟩) h.1 _⟩
  · refine (check_used b w h.cell0).mono ?_
    rintro e w' ⟨rfl, rfl⟩
    exact ⟨rfl, h, Below.refl B _⟩
theorem wstr_any (B b : Nat) (bs : List Value) (s : ByteArray) (w : World) (h : Lib.IsBuilder 113 5 B b bs w) (hlen : bs.length + s.size ≤ 140737488355328) (hBw : B ≤ w.heap.size) :
    Calls Tryz.prog 63 #[.pointer (some ⟨b, 0, none⟩), .string s] w fun e w' => e = .returned (.tuple #[.int .i64 s.size, .nilIface]) ∧ (Lib.BuilderAt 113 5 B b (.pointer (some ⟨b, 0, none⟩)) (bs ++ Lib.strCells s) w' ∧ Below B w w') := by
  obtain ⟨i0, hi, hz0, hz1, hz2⟩ := info_parts Tryz.info5
  go_enter Tryz.func63, Tryz.ntmps63
  go_upto_region 2 with (go_at_call 107; (with_reducible refine (check_any B b bs _ h).mono ?_); rintro e w1 ⟨rfl, h1, hb1⟩)
  obtain ⟨hB, v, hbk, hown, hne⟩ := h1
  have c0 : w1.cell? ⟨b, 0, none⟩ = some (.pointer (some ⟨b, 0, none⟩)) := by rw [cell_of_row _ _ _ _ _ _ hbk]; rfl
  have c1 : w1.cell? ⟨b, 1, none⟩ = some v := by rw [cell_of_row _ _ _ _ _ _ hbk]; rfl
  go_wp2_with (at_builtin; refine Lib.wpList_append_own_string _ rfl _ _ 22 9 rfl B 5 i0 Tryz.underlying22 Tryz.underlying9 hi hz0 hz1 hz2 _ _ _ rfl hown s rfl ?c3 ?c4 ?c5 ?_)
  case c3 => unfold maxLen; omega
  case c4 => omega
  case c5 => have := hb1.size; omega
  intro v' w2 hown' hgrow _
  have hlt : b < w1.heap.size := (Array.getElem?_eq_some_iff.1 hbk).1
  have hb2 : w2.heap[b]? = some (.cells #[.pointer (some ⟨b, 0, none⟩), v] 113 (0, 0)) := by
    rw [hgrow.block b hlt (fun e => hne e.symm)]
    exact hbk
  have d0 : w2.cell? ⟨b, 0, none⟩ = some (.pointer (some ⟨b, 0, none⟩)) := by rw [cell_of_row _ _ _ _ _ _ hb2]; rfl
  have d1 : w2.cell? ⟨b, 1, none⟩ = some v := by rw [cell_of_row _ _ _ _ _ _ hb2]; rfl
  have f1 : w2.frozen? ⟨b, 1, none⟩ = false := frozen_of_row _ _ _ _ _ hb2
  obtain ⟨ao, n', cap, rfl⟩ : ∃ ao n' cap, v' = .slice ao n' cap := by
    rcases hown'.2 with ⟨hv, _⟩ | ⟨g, cap, cur, hv, _⟩
    · exact ⟨_, _, _, hv⟩
    · exact ⟨_, _, _, hv⟩
  go_wp2
  go_ret2
  refine ⟨rfl, ?_, ?_⟩
  · exact Lib.BuilderAt.put (T := 113) (e := 5) hB hb2 (bs' := bs ++ Lib.strCells s) (by simpa [Lib.strCells_length] using hown') (by decide)
  · exact (hb1.grown hgrow (by have := hb1.size; omega) (fun k hk => (hown.lt k hk).1)).setCell (p := ⟨b, 1, none⟩) hB _
end
section
open Go.RowKit
set_option maxRecDepth 100000
set_option linter.unusedVariables false
theorem maxlen_of {W : World} (h : W.ShapedOpen Tryz.prog) : ∃ m, W.cell? ⟨0, 0, none⟩ = some (.int .i64 m) :=
  cell_of_shapedOpen_int (g := 0) (t := 3) (zero := #[.int .i64 0]) (k := .i64) h (of_decide_eq_true (by kernel_rfl)) (by kernel_rfl) rfl (by kernel_rfl) (by kernel_rfl) (by kernel_rfl)
/-- a table of integers, wherever it stands among the laid ones -/
theorem tabIs_of_vars {P : Program} {W : World} {name : String} {k : IntKind} {zs : List Int} {g : Nat} {t e : TypeId} {n : Nat}
    (hg : P.globalNamed name = some g) (hty : (P.globals[g]?).map (·.type) = some t) (ht : P.underlying t = some (.array n e)) (he : P.underlying e = some (.int k)) (hce : P.cellsOf e = 1) (hct : P.cellsOf t = n) :
    ∀ {l : List (String × DataW Unit)} {ps : List MemPlace}, DataW.LaidVars P W l ps → (name, Lib.tabData k zs) ∈ l → Lib.TabIs P W name k zs
  | [], _, _, hm => by simp at hm
  | (m, d) :: r, ps, h, hm => by
    obtain ⟨g', t', cs, fuel, p, q, hg', ht', hvar, hd, hr, _⟩ := h
    rcases List.mem_cons.1 hm with e1 | e1
    · injection e1 with e2 e3
      subst e2
      subst e3
      obtain rfl := Option.some.inj (hg.symm.trans hg')
      obtain rfl := Option.some.inj (hty.symm.trans ht')
      unfold Lib.TabIs
      rw [hvar, ← Lib.cells_of_tab ht he hce hct hd]
    · exact tabIs_of_vars hg hty ht he hce hct hr e1
theorem gb_of {W : World} {l : List (String × DataW Unit)} (hs : W.ShapedOpen Tryz.prog) (hp : (l.filter fun x => x.2.handleName?.isSome) = []) (hm : ("internal/strconv.uint64pow10", Lib.tabData .u64 Lib.pow10Tab) ∈ l) (h : laidMetH Tryz.prog l W) : Gb W := by
  have h' : laidMet Tryz.prog l W := by
    unfold laidMetH at h
    rw [hp] at h
    exact h
  obtain ⟨ps, hv, _⟩ := h'
  exact ⟨maxlen_of hs, tabIs_of_vars (g := 1) (t := 218) (e := 155) (n := 20) (by kernel_rfl) (by kernel_rfl) Tryz.underlying218 Tryz.underlying155 (by kernel_rfl) (by kernel_rfl) hv hm⟩
theorem returns_shaped_and {H : Type} {enc : TypeId × Value → H} {a : Assume} {C : Checked} {os : Os} {f : FuncId} {fn : Func} {s : ChangeSpec} {conds : List PathCond} {apart fresh handsOn again : Bool} {X : World → Array Value → Prop}
    (hX : ∀ (w w' : World) (args : Array Value), w.heap = w'.heap → X w args → X w' args)
    (own : ownKnob C.prog.godebug = none) (started : os.Started) (noInit : C.prog.inits.idxOf? f = none) (hfn : C.prog.funcs[f]? = some fn)
    (witness : ∃ (w : World) (tape : Tape) (i : Input), w.os = os ∧ (w.forCall tape i).Shaped C.prog ∧ i.vars = [] ∧ Input.okWide C.prog (w.forCall tape i) .any w.heap.size f i ∧
      ((s.pre enc C.prog fn conds apart (w.forCall tape i).memory i.args ∧ X (w.forCall tape i).memory i.args) ∧ sizedMet enc C.prog fn (OpenSpec.ofChange s) apart (w.forCall tape i).memory i.args) ∧ a.holds C.prog (lone (Frame.enter C.prog f i.args .normal) [] (w.forCall tape i)))
    (contract : ∀ (W : World) (base : Nat) (args : Array Value) (ds gs : List (DataW H)) (before : List MemPlace),
      (∀ (j : Nat) t v, fn.params[j]? = some t → args[j]? = some v → Value.okWide C.prog W .any base t v) →
      DataW.Whole enc C.prog fn.params.toList s.vars apart W args.toList ds gs before → X W args → W.ShapedOpen C.prog →
      Calls C.prog f args W fun e W' => ∃ v, e = .returned v ∧ s.post enc C.prog fn apart fresh handsOn again W args v W') :
    ReturnsInHanded a C os f .any (fun w args => (s.pre enc C.prog fn conds apart w args ∧ X w args) ∧ sizedMet enc C.prog fn (OpenSpec.ofChange s) apart w args) (s.post enc C.prog fn apart fresh handsOn again) := by
  refine returnsInHanded_of_calls own started noInit witness fun w tape i _ hsh _ hok hpre hholds => ?_
  obtain ⟨_, _, _, fn', hfn', _, _, _, _, hval⟩ := hok
  obtain rfl : fn' = fn := Option.some.inj (hfn'.symm.trans hfn)
  obtain ⟨⟨⟨ds, gs, before, hw, hc⟩, hx⟩, hz⟩ := hpre
  have k := contract (w.forCall tape i) w.heap.size i.args ds gs before hval (DataW.Whole.of_heap (w' := w.forCall tape i) (by rfl) hw) (hX _ _ _ (by rfl) hx) hsh
  exact k.mono fun e W' ⟨v, he, hp⟩ => by
    subst he
    exact ChangeSpec.post_blind hp
end
end Go.Proofs.YtcedfapcpmedfaaGreatDoor
