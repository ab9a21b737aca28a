/- How many signs two texts of forty have alike. Condition: forty signs each.
   Does a text begin with another one? Condition: the texts are shorter than 2^40.
   The shortest front of a name that is no other one's, and what a front leads to: plain laws on rising rows of names. Conditions: twenty bytes each.
   oid.Short in a rising row of names. Conditions: twenty bytes each, fewer than 256 names.
   The reference's Short in a rising row of names. Conditions: twenty bytes each, fewer than 256 names.
   oid.Match in a row of names. Conditions: twenty bytes each, fewer than 256 names; the front is shorter than 2^40.
   The reference's Match in a row of names. Conditions: twenty bytes each, fewer than 256 names; the front is shorter than 2^40. -/
import Derived.Test.YtjiiploleinobaaOidT
import Derived.Test.YtjiiploleinobaaOidQ
import Derived.Test.YtjiiploleinobaaRefB
import Derived.Test.YtjiiploleinobaaRefF
import Derived.Test.YtjiiploleinobaaRefC
namespace Go.Proofs.Ytjiiploleinobaa
section
open Go.RowKit
set_option maxRecDepth 100000
set_option maxHeartbeats 4000000
set_option linter.unusedVariables false
/-- how long the common front is -/
def com : List UInt8 → List UInt8 → Nat
  | x :: a, y :: b => if x = y then com a b + 1 else 0
  | _, _ => 0
theorem com_of : ∀ (n : Nat) (a b : List UInt8) (ha : n ≤ a.length) (hb : n ≤ b.length), a.take n = b.take n → (∀ (h1 : n < a.length) (h2 : n < b.length), a[n] ≠ b[n]) → com a b = n
  | 0, a, b, _, _, _, hne => by
    cases a with
    | nil => rfl
    | cons x a =>
      cases b with
      | nil => rfl
      | cons y b =>
        have := hne (by simp) (by simp)
        simp only [List.getElem_cons_zero] at this
        rw [com, if_neg this]
  | n + 1, a, b, ha, hb, ht, hne => by
    cases a with
    | nil => simp at ha
    | cons x a =>
      cases b with
      | nil => simp at hb
      | cons y b =>
        rw [List.take_succ_cons, List.take_succ_cons] at ht
        injection ht with h1 h2
        rw [com, if_pos h1, com_of n a b (by simpa using ha) (by simpa using hb) h2 (fun g1 g2 => by
          have := hne (by simp; omega) (by simp; omega)
          simpa using this)]
theorem alike_any (s t : ByteArray) (hs : s.size = 40) (ht : t.size = 40) (w : World) : Calls Try.prog 38 #[.string s, .string t] w fun e w' => e = .returned (.int .i64 (com s.data.toList t.data.toList : Nat)) ∧ Below w.heap.size w w' := by
  obtain ⟨r, hr⟩ : ∃ r, r = com s.data.toList t.data.toList := ⟨_, rfl⟩
  rw [← hr]
  have HR := Lib.hid hr; have HS := Lib.hid hs; have HT := Lib.hid ht
  clear hr hs ht
  go_enter Try.func38, Try.ntmps38
  go_wp2
  go_loopw [5] (fun t5 wr => ∃ n : Nat, t5 = .int .i64 (n : Int) ∧ n ≤ 40 ∧ Hid (s.data.toList.take n = t.data.toList.take n) ∧ Below w.heap.size w wr) (fun t5 _ => (40 - intOf t5).toNat)
  case atStart => exact ⟨0, rfl, by omega, Lib.hid (by simp), Below.refl _ _⟩
  case round =>
    obtain ⟨n, rfl, hn, hT, hbw⟩ := hrel
    by_cases h40 : n < 40
    · have hd : decide ((n : Int) < 40) = true := decide_eq_true (by omega)
      have h1 : n < s.size := by rw [HS.out]; exact h40
      have h2 : n < t.size := by rw [HT.out]; exact h40
      have l1 : n < s.data.toList.length := by simpa using h1
      have l2 : n < t.data.toList.length := by simpa using h2
      obtain ⟨e1, _⟩ := str_at s n h1
      obtain ⟨e2, _⟩ := str_at t n h2
      have E1 := Lib.hid e1; have E2 := Lib.hid e2
      clear e1 e2
      by_cases hxy : s[n] = t[n]
      · have hq : ((s[n].toNat : Int) == (t[n].toNat : Int)) = true := by rw [hxy]; exact beq_self_eq_true _
        have HXY := Lib.hid hxy
        clear hxy
        go_wp2
        go_quiet (fail)
        go_wp2
        go_roundw
        case rel => exact ⟨n + 1, by simp, by omega, Lib.hid (by rw [E1.out, E2.out, hT.out, HXY.out]), Below.drewN hbw _⟩
        case measure => simp only [intOf]; omega
      · have hq : ((s[n].toNat : Int) == (t[n].toNat : Int)) = false := beq_eq_false_iff_ne.2 (fun e => hxy (UInt8.toNat_inj.1 (by omega)))
        have hne : ¬ (s[n].toNat : Int) = (t[n].toNat : Int) := fun e => hxy (UInt8.toNat_inj.1 (by omega))
        have hc := com_of n s.data.toList t.data.toList (by omega) (by omega) hT.out (fun _ _ => hxy)
        have HC := Lib.hid hc
        clear hxy hc
        go_wp2
        go_quiet (fail)
        go_wp2
        go_ret
        exact ⟨by rw [HR.out, HC.out]; rfl, Below.drewN hbw _⟩
    · obtain rfl : n = 40 := by omega
      have hd : decide (((40 : Nat) : Int) < 40) = false := rfl
      have hc := com_of 40 s.data.toList t.data.toList (by simp; rw [HS.out]; exact Nat.le_refl _) (by simp; rw [HT.out]; exact Nat.le_refl _) hT.out (fun g1 _ => by
        have : s.data.toList.length = 40 := by simpa using HS.out
        omega)
      have HC := Lib.hid hc
      clear hc
      go_wp2
      go_quiet (fail)
      go_wp2
      go_ret
      exact ⟨by rw [HR.out, HC.out]; rfl, Below.drewN hbw _⟩
end
section
open Go.RowKit
set_option maxRecDepth 100000
set_option maxHeartbeats 4000000
set_option linter.unusedVariables false
/-- does a begin with b? -/
def preB (a b : List UInt8) : Bool := decide (b.length ≤ a.length) && (a.take b.length == b)
theorem pre_ext (s t : ByteArray) (h : t.size ≤ s.size) : ((s.extract 0 t.size).toList == t.toList) = preB s.data.toList t.data.toList := by
  rw [Lib.toList_data, Lib.toList_data]
  have e1 : (s.extract 0 t.size).data.toList = s.data.toList.take t.size := by simp
  have e2 : t.data.toList.length = t.size := by simp
  have e3 : s.data.toList.length = s.size := by simp
  unfold preB
  rw [e1, e2, e3, decide_eq_true h]
  simp
theorem pre_short (s t : ByteArray) (h : ¬ t.size ≤ s.size) : preB s.data.toList t.data.toList = false := by
  have e2 : t.data.toList.length = t.size := by simp
  have e3 : s.data.toList.length = s.size := by simp
  unfold preB
  rw [e2, e3, decide_eq_false h]
  rfl
theorem pre45 (s t : ByteArray) (hs : s.size ≤ 1099511627776) (ht : t.size ≤ 1099511627776) (w : World) : Calls Try.prog 45 #[.string s, .string t] w fun e w' => e = .returned (.bool (preB s.data.toList t.data.toList)) ∧ w = w' := by
  by_cases h : t.size ≤ s.size
  · rw [← pre_ext s t h]
    go_enter Try.func45, Try.ntmps45
    go_wp2
    go_ret
    exact ⟨rfl, rfl⟩
  · rw [pre_short s t h]
    go_enter Try.func45, Try.ntmps45
    go_wp2
    go_ret
    exact ⟨rfl, rfl⟩
theorem pre39 (s t : ByteArray) (hs : s.size ≤ 1099511627776) (ht : t.size ≤ 1099511627776) (w : World) : Calls Try.prog 39 #[.string s, .string t] w fun e w' => e = .returned (.bool (preB s.data.toList t.data.toList)) ∧ w = w' := by
  by_cases h : t.size ≤ s.size
  · rw [← pre_ext s t h]
    go_enter Try.func39, Try.ntmps39
    go_wp2
    go_ret
    exact ⟨rfl, rfl⟩
  · rw [pre_short s t h]
    go_enter Try.func39, Try.ntmps39
    go_wp2
    go_ret
    exact ⟨rfl, rfl⟩
theorem pre40 (s t : ByteArray) (hs : s.size ≤ 1099511627776) (ht : t.size ≤ 1099511627776) (w : World) : Calls Try.prog 40 #[.string s, .string t] w fun e w' => e = .returned (.bool (preB s.data.toList t.data.toList)) ∧ w = w' := by
  have k := pre45 s t hs ht w
  go_enter Try.func40, Try.ntmps40
  go_wp2_with (go_at_call 45; (with_reducible refine k.mono ?_); rintro e w1 ⟨rfl, rfl⟩)
  go_ret
  exact ⟨rfl, rfl⟩
end
section
open Go.RowKit
set_option linter.unusedVariables false
/-- the place in a text up to which two are alike -/
theorem com_comm : ∀ a b : List UInt8, com a b = com b a
  | [], [] => rfl
  | [], _ :: _ => rfl
  | _ :: _, [] => rfl
  | x :: a, y :: b => by
    unfold com
    rw [com_comm a b]
    by_cases h : x = y
    · rw [if_pos h, if_pos h.symm]
    · rw [if_neg h, if_neg (fun e => h e.symm)]
theorem com_le : ∀ a b : List UInt8, com a b ≤ a.length
  | [], [] => Nat.le_refl _
  | [], _ :: _ => Nat.le_refl _
  | _ :: _, [] => Nat.zero_le _
  | x :: a, y :: b => by
    have := com_le a b
    unfold com
    split
    · simp; omega
    · simp
theorem com_self : ∀ a : List UInt8, com a a = a.length
  | [] => rfl
  | x :: a => by unfold com; rw [if_pos rfl, com_self a]; rfl
theorem com_take : ∀ (n : Nat) (a b : List UInt8), n ≤ a.length → n ≤ b.length → (a.take n = b.take n ↔ n ≤ com a b)
  | 0, a, b, _, _ => by simp
  | n + 1, [], b, h, _ => by simp at h
  | n + 1, a, [], _, h => by simp at h
  | n + 1, x :: a, y :: b, h1, h2 => by
    have ih := com_take n a b (by simpa using h1) (by simpa using h2)
    unfold com
    rw [List.take_succ_cons, List.take_succ_cons]
    by_cases h : x = y
    · subst h
      rw [if_pos rfl]
      simp [ih]
    · rw [if_neg h]
      simp [h]
theorem com_eq (a b : List UInt8) (h : a.length = b.length) (hc : a.length ≤ com a b) : a = b := by
  have := (com_take a.length a b (Nat.le_refl _) (by omega)).2 hc
  rwa [List.take_of_length_le (Nat.le_refl _), List.take_of_length_le (by omega)] at this
theorem u8_irr (x : UInt8) : ¬ x < x := fun h => by have : x.toNat < x.toNat := h; omega
theorem u8_lt_trans {x y z : UInt8} (h : x < y) (k : y < z) : x < z := by
  have h1 : x.toNat < y.toNat := h
  have h2 : y.toNat < z.toNat := k
  show x.toNat < z.toNat
  omega
theorem com_mono : ∀ a b c : List UInt8, a < b → b < c → com a c ≤ com a b ∧ com a c ≤ com b c
  | [], b, c, _, _ => by cases c <;> simp [com]
  | _ :: _, [], _, h, _ => by cases h
  | _ :: _, _ :: _, [], _, h => by cases h
  | x :: a, y :: b, z :: c, h1, h2 => by
    rw [List.cons_lt_cons_iff] at h1 h2
    unfold com
    by_cases hxz : x = z
    · subst hxz
      rw [if_pos rfl]
      rcases h1 with h1 | ⟨h1, h1'⟩
      · rcases h2 with h2 | ⟨h2, h2'⟩
        · exact absurd (u8_lt_trans h1 h2) (u8_irr _)
        · subst h2; exact absurd h1 (u8_irr _)
      · subst h1
        rcases h2 with h2 | ⟨h2, h2'⟩
        · exact absurd h2 (u8_irr _)
        · have := com_mono a b c h1' h2'
          rw [if_pos rfl, if_pos rfl]
          omega
    · rw [if_neg hxz]
      exact ⟨Nat.zero_le _, Nat.zero_le _⟩
theorem hexs_lt : ∀ a b : List UInt8, a.length = b.length → a < b → hexs a < hexs b
  | [], b, _, h => by
    cases b with
    | nil => cases h
    | cons y b => simp at *
  | x :: a, [], h, _ => by simp at h
  | x :: a, y :: b, hl, h => by
    rw [hexs_cons, hexs_cons]
    rw [List.cons_lt_cons_iff] at h
    have hx := x.toNat_lt
    have hy := y.toNat_lt
    have q1 := hexd_ord (x.toNat / 16) (by omega) (y.toNat / 16) (by omega)
    have q2 := hexd_ord (x.toNat % 16) (by omega) (y.toNat % 16) (by omega)
    rw [List.cons_lt_cons_iff, List.cons_lt_cons_iff]
    rcases h with h | ⟨h, h'⟩
    · have h : x.toNat < y.toNat := h
      by_cases he : x.toNat / 16 = y.toNat / 16
      · exact .inr ⟨q1.2.2 he, .inl (q2.1.2 (by omega))⟩
      · exact .inl (q1.1.2 (by omega))
    · subst h
      exact .inr ⟨rfl, .inr ⟨rfl, hexs_lt a b (by simpa using hl) h'⟩⟩
theorem hexs_inj : ∀ a b : List UInt8, hexs a = hexs b → a = b
  | [], [], _ => rfl
  | [], y :: b, h => by rw [hexs_cons] at h; simp [hexs] at h
  | x :: a, [], h => by rw [hexs_cons] at h; simp [hexs] at h
  | x :: a, y :: b, h => by
    rw [hexs_cons, hexs_cons] at h
    injection h with h1 h
    injection h with h2 h3
    have hx := x.toNat_lt
    have hy := y.toNat_lt
    have q1 := (hexd_ord (x.toNat / 16) (by omega) (y.toNat / 16) (by omega)).2.1 h1
    have q2 := (hexd_ord (x.toNat % 16) (by omega) (y.toNat % 16) (by omega)).2.1 h2
    rw [hexs_inj a b h3, UInt8.toNat_inj.1 (show x.toNat = y.toNat by omega)]
/-- how many signs two names have alike -/
def cmn (x y : List UInt8) : Nat := com (hexs x) (hexs y)
theorem cmn_comm (x y : List UInt8) : cmn x y = cmn y x := com_comm _ _
theorem cmn_lt {x y : List UInt8} (hx : x.length = 20) (hy : y.length = 20) (h : x ≠ y) : cmn x y < 40 := by
  have h1 := com_le (hexs x) (hexs y)
  rw [hexs_len, hx] at h1
  unfold cmn
  rcases Nat.lt_or_ge (com (hexs x) (hexs y)) 40 with g | g
  · exact g
  · exact absurd (hexs_inj x y (com_eq _ _ (by rw [hexs_len, hexs_len, hx, hy]) (by rw [hexs_len, hx]; exact g))) h
theorem preB_cmn (x y : List UInt8) (hx : x.length = 20) (hy : y.length = 20) (n : Nat) (hn : n ≤ 40) : preB (hexs x) ((hexs y).take n) = decide (n ≤ cmn x y) := by
  have l1 : (hexs x).length = 40 := by rw [hexs_len, hx]
  have l2 : (hexs y).length = 40 := by rw [hexs_len, hy]
  have lt : ((hexs y).take n).length = n := by rw [List.length_take, l2]; omega
  have := com_take n (hexs x) (hexs y) (by omega) (by omega)
  unfold preB cmn
  rw [lt, decide_eq_true (by omega : n ≤ (hexs x).length), Bool.true_and]
  by_cases h : n ≤ com (hexs x) (hexs y)
  · rw [decide_eq_true h, this.2 h]; simp
  · rw [decide_eq_false h]
    exact beq_eq_false_iff_ne.2 (fun e => h (this.1 e))
/-- the names that begin so -/
def fits (l : List (List UInt8)) (p : List UInt8) : List (List UInt8) := l.filter (fun x => preB (hexs x) p)
/-- one more than the neighbours have alike with the k-th -/
def mxc (l : List (List UInt8)) (k : Nat) : Nat :=
  max (if 0 < k then cmn (l.getD k []) (l.getD (k - 1) []) + 1 else 0) (if k + 1 < l.length then cmn (l.getD k []) (l.getD (k + 1) []) + 1 else 0)
theorem ris_get {l : List (List UInt8)} (h : Ris l) {i j : Nat} (hij : i < j) (hj : j < l.length) : l.getD i [] < l.getD j [] := by
  rw [List.getD_eq_getElem?_getD, List.getD_eq_getElem?_getD, List.getElem?_eq_getElem (by omega), List.getElem?_eq_getElem hj]
  exact List.pairwise_iff_getElem.1 h i j (by omega) hj hij
theorem at20 {l : List (List UInt8)} (h20 : All20 l) (i : Nat) (hi : i < l.length) : (l.getD i []).length = 20 :=
  h20 _ (by rw [List.getD_eq_getElem?_getD, List.getElem?_eq_getElem hi]; exact List.getElem_mem hi)
theorem ris_ne {l : List (List UInt8)} (h : Ris l) {i j : Nat} (hij : i < j) (hj : j < l.length) : l.getD i [] ≠ l.getD j [] := fun e => by
  have := ris_get h hij hj
  rw [e] at this
  exact List.lt_irrefl _ this
theorem mxc_le {l : List (List UInt8)} (h : Ris l) (h20 : All20 l) (k : Nat) (hk : k < l.length) : mxc l k ≤ 40 := by
  unfold mxc
  have a : (if 0 < k then cmn (l.getD k []) (l.getD (k - 1) []) + 1 else 0) ≤ 40 := by
    split
    · exact cmn_lt (at20 h20 k hk) (at20 h20 (k - 1) (by omega)) (fun e => ris_ne h (i := k - 1) (j := k) (by omega) hk e.symm)
    · omega
  have b : (if k + 1 < l.length then cmn (l.getD k []) (l.getD (k + 1) []) + 1 else 0) ≤ 40 := by
    split
    · exact cmn_lt (at20 h20 k hk) (at20 h20 (k + 1) (by omega)) (ris_ne h (by omega) (by omega))
    · omega
  omega
theorem cmn_other {l : List (List UInt8)} (h : Ris l) (h20 : All20 l) (k : Nat) (hk : k < l.length) (n : Nat) (hn : mxc l k ≤ n) (j : Nat) (hj : j < l.length) (hjk : j ≠ k) : cmn (l.getD j []) (l.getD k []) < n := by
  have hx : ∀ i, i < l.length → (l.getD i []).length = 20 := fun i hi => at20 h20 i hi
  have mono : ∀ i i', i < i' → i' < l.length → hexs (l.getD i []) < hexs (l.getD i' []) := fun i i' h1 h2 => hexs_lt _ _ (by rw [hx i (by omega), hx i' h2]) (ris_get h h1 h2)
  unfold mxc at hn
  rcases Nat.lt_or_gt_of_ne hjk with g | g
  · rw [if_pos (by omega : 0 < k)] at hn
    rcases Nat.lt_or_ge j (k - 1) with g2 | g2
    · have := (com_mono _ _ _ (mono j (k - 1) g2 (by omega)) (mono (k - 1) k (by omega) hk)).2
      have e : cmn (l.getD k []) (l.getD (k - 1) []) = cmn (l.getD (k - 1) []) (l.getD k []) := cmn_comm _ _
      unfold cmn at *
      omega
    · obtain rfl : j = k - 1 := by omega
      rw [cmn_comm]
      omega
  · rw [if_pos (by omega : k + 1 < l.length)] at hn
    rw [cmn_comm]
    rcases Nat.lt_or_ge (k + 1) j with g2 | g2
    · have := (com_mono _ _ _ (mono k (k + 1) (by omega) (by omega)) (mono (k + 1) j g2 hj)).1
      unfold cmn at *
      omega
    · obtain rfl : j = k + 1 := by omega
      omega
theorem split_at (l : List (List UInt8)) (k : Nat) (hk : k < l.length) : l = l.take k ++ l.getD k [] :: l.drop (k + 1) := by
  conv => lhs; rw [← List.take_append_drop k l]
  congr 1
  rw [List.drop_eq_getElem_cons hk, List.getD_eq_getElem?_getD, List.getElem?_eq_getElem hk]
  rfl
theorem mem_take_at {l : List (List UInt8)} {k : Nat} {x : List UInt8} (h : x ∈ l.take k) : ∃ j, j < k ∧ j < l.length ∧ l.getD j [] = x := by
  obtain ⟨j, hj, e⟩ := List.mem_iff_getElem.1 h
  rw [List.length_take] at hj
  refine ⟨j, by omega, by omega, ?_⟩
  rw [List.getD_eq_getElem?_getD, List.getElem?_eq_getElem (by omega)]
  rw [List.getElem_take] at e
  exact e
theorem mem_drop_at {l : List (List UInt8)} {k : Nat} {x : List UInt8} (h : x ∈ l.drop k) : ∃ j, k ≤ j ∧ j < l.length ∧ l.getD j [] = x := by
  obtain ⟨j, hj, e⟩ := List.mem_iff_getElem.1 h
  rw [List.length_drop] at hj
  refine ⟨k + j, by omega, by omega, ?_⟩
  rw [List.getD_eq_getElem?_getD, List.getElem?_eq_getElem (by omega)]
  rw [List.getElem_drop] at e
  exact e
/-- from so many signs on the k-th name stands alone -/
theorem fits_one {l : List (List UInt8)} (h : Ris l) (h20 : All20 l) (k : Nat) (hk : k < l.length) (n : Nat) (hn : n ≤ 40) (hm : mxc l k ≤ n) : fits l ((hexs (l.getD k [])).take n) = [l.getD k []] := by
  have hself : preB (hexs (l.getD k [])) ((hexs (l.getD k [])).take n) = true := by
    rw [preB_cmn _ _ (at20 h20 k hk) (at20 h20 k hk) n hn]
    unfold cmn
    rw [com_self, hexs_len, at20 h20 k hk]
    exact decide_eq_true (by omega)
  have hoth : ∀ j, j < l.length → j ≠ k → preB (hexs (l.getD j [])) ((hexs (l.getD k [])).take n) = false := fun j hj hjk => by
    rw [preB_cmn _ _ (at20 h20 j hj) (at20 h20 k hk) n hn]
    have := cmn_other h h20 k hk n hm j hj hjk
    exact decide_eq_false (by omega)
  obtain ⟨p, hp⟩ : ∃ p, p = (hexs (l.getD k [])).take n := ⟨_, rfl⟩
  rw [← hp] at hself hoth ⊢
  unfold fits
  conv => lhs; rw [split_at l k hk]
  rw [List.filter_append, List.filter_cons, if_pos hself, List.filter_eq_nil_iff.2, List.filter_eq_nil_iff.2]
  · rfl
  · intro x hx
    obtain ⟨j, h1, h2, rfl⟩ := mem_drop_at hx
    rw [hoth j h2 (by omega)]
    simp
  · intro x hx
    obtain ⟨j, h1, h2, rfl⟩ := mem_take_at hx
    rw [hoth j h2 (by omega)]
    simp
/-- with fewer it does not -/
theorem fits_more {l : List (List UInt8)} (h : Ris l) (h20 : All20 l) (k : Nat) (hk : k < l.length) (n : Nat) (hn : n < mxc l k) : 2 ≤ (fits l ((hexs (l.getD k [])).take n)).length := by
  have h40 := mxc_le h h20 k hk
  have hself : preB (hexs (l.getD k [])) ((hexs (l.getD k [])).take n) = true := by
    rw [preB_cmn _ _ (at20 h20 k hk) (at20 h20 k hk) n (by omega)]
    unfold cmn
    rw [com_self, hexs_len, at20 h20 k hk]
    exact decide_eq_true (by omega)
  have two : ∃ i j, i < j ∧ j < l.length ∧ preB (hexs (l.getD i [])) ((hexs (l.getD k [])).take n) = true ∧ preB (hexs (l.getD j [])) ((hexs (l.getD k [])).take n) = true := by
    by_cases h1 : 0 < k ∧ n < cmn (l.getD k []) (l.getD (k - 1) []) + 1
    · refine ⟨k - 1, k, by omega, hk, ?_, hself⟩
      rw [preB_cmn _ _ (at20 h20 (k - 1) (by omega)) (at20 h20 k hk) n (by omega), cmn_comm]
      exact decide_eq_true (by omega)
    · by_cases h2 : k + 1 < l.length ∧ n < cmn (l.getD k []) (l.getD (k + 1) []) + 1
      · refine ⟨k, k + 1, by omega, h2.1, hself, ?_⟩
        rw [preB_cmn _ _ (at20 h20 (k + 1) h2.1) (at20 h20 k hk) n (by omega), cmn_comm]
        exact decide_eq_true (by omega)
      · unfold mxc at hn
        split at hn
        · split at hn <;> omega
        · split at hn <;> omega
  obtain ⟨p, hp⟩ : ∃ p, p = (hexs (l.getD k [])).take n := ⟨_, rfl⟩
  rw [← hp] at two ⊢
  obtain ⟨i, j, hij, hj, hpi, hpj⟩ := two
  unfold fits
  rw [split_at l j hj, List.filter_append, List.length_append, List.filter_cons, if_pos hpj, List.length_cons]
  have : 0 < ((l.take j).filter (fun x => preB (hexs x) p)).length := by
    refine List.length_pos_of_mem (a := l.getD i []) (List.mem_filter.2 ⟨?_, hpi⟩)
    rw [List.getD_eq_getElem?_getD, List.getElem?_eq_getElem (by omega), Option.getD_some]
    exact List.mem_iff_getElem.2 ⟨i, by simp; omega, by simp⟩
  omega
/-- how long the shortest front of the k-th is -/
def shN (l : List (List UInt8)) (k : Nat) : Nat := min 40 (max 4 (mxc l k))
/-- what Short answers -/
def shortI (l : List (List UInt8)) (k : Nat) (is : Bool) (id : List UInt8) : List UInt8 × Nat := if is then ((hexs id).take (shN l k), 0) else ([], 6)
/-- what Match answers -/
def goodF (p : List UInt8) : Bool := decide (4 ≤ p.length ∧ p.length ≤ 40 ∧ allHex p)
def matchI (l : List (List UInt8)) (p : List UInt8) : List UInt8 × Nat := if goodF p then (match fits l p with | [] => (zs20, 6) | [x] => (x, 0) | _ => (zs20, 9)) else (zs20, 2)
theorem allHex_take {s : List UInt8} (h : allHex s) (n : Nat) : allHex (s.take n) := fun c hc => h c (List.mem_of_mem_take hc)
theorem match_short {l : List (List UInt8)} (h : Ris l) (h20 : All20 l) (k : Nat) (hk : k < l.length) : matchI l ((hexs (l.getD k [])).take (shN l k)) = (l.getD k [], 0) := by
  have hl : ((hexs (l.getD k [])).take (shN l k)).length = shN l k := by
    rw [List.length_take, hexs_len, at20 h20 k hk]
    unfold shN
    omega
  have hm := mxc_le h h20 k hk
  unfold matchI goodF
  rw [fits_one h h20 k hk (shN l k) (by unfold shN; omega) (by unfold shN; omega), if_pos]
  refine decide_eq_true ⟨?_, ?_, allHex_take (allHex_hexs _) _⟩
  · rw [hl]; unfold shN; omega
  · rw [hl]; unfold shN; omega
theorem match_less {l : List (List UInt8)} (h : Ris l) (h20 : All20 l) (k : Nat) (hk : k < l.length) (hs : 4 < shN l k) : matchI l ((hexs (l.getD k [])).take (shN l k - 1)) = (zs20, 9) := by
  have hm := mxc_le h h20 k hk
  have hl : ((hexs (l.getD k [])).take (shN l k - 1)).length = shN l k - 1 := by
    rw [List.length_take, hexs_len, at20 h20 k hk]
    unfold shN
    omega
  have h2 := fits_more h h20 k hk (shN l k - 1) (by unfold shN at *; omega)
  have hg : goodF ((hexs (l.getD k [])).take (shN l k - 1)) = true := by
    unfold goodF
    refine decide_eq_true ⟨?_, ?_, allHex_take (allHex_hexs _) _⟩
    · rw [hl]; omega
    · rw [hl]; unfold shN; omega
  unfold matchI
  rw [hg, if_pos rfl]
  generalize fits l ((hexs (l.getD k [])).take (shN l k - 1)) = q at h2
  match q, h2 with
  | [], h2 => simp at h2
  | [_], h2 => simp at h2
  | _ :: _ :: _, _ => rfl
end
section
open Go.RowKit
set_option maxRecDepth 100000
set_option maxHeartbeats 4000000
set_option linter.unusedVariables false
theorem bstr_size (l : List UInt8) : (bstr l).size = l.length := by
  show l.toArray.size = _
  simp
theorem alike_cmn (x y : List UInt8) (hx : x.length = 20) (hy : y.length = 20) (w : World) : Calls Try.prog 38 #[.string (bstr (hexs x)), .string (bstr (hexs y))] w fun e w' => e = .returned (.int .i64 (cmn x y : Nat)) ∧ Below w.heap.size w w' := by
  have h := alike_any (bstr (hexs x)) (bstr (hexs y)) (by rw [bstr_size, hexs_len, hx]) (by rw [bstr_size, hexs_len, hy]) w
  have e1 : ∀ l : List UInt8, (bstr l).data.toList = l := fun l => by simp
  rw [e1, e1] at h
  exact h
theorem ext_take (h : List UInt8) (z : Int) (m : Nat) (hz : z.toNat = m) : (bstr h).extract 0 z.toNat = bstr (h.take m) := by
  subst hz
  apply ByteArray.ext
  simp
theorem short_any (l : List (List UInt8)) (hris : Ris l) (h20 : All20 l) (hn : l.length < 256) (A : Option Addr) (c : Nat) (id : List UInt8) (hid : id.length = 20) (w : World) (hA : Sl w A (idc l)) :
    Calls Try.prog 22 #[.slice A l.length c, idv id] w fun e w' => e = .returned (.tuple #[.string (bstr (shortI l (fk l id) (fis l id) id).1), .int .i64 ((shortI l (fk l id) (fis l id) id).2 : Nat)]) ∧ Below w.heap.size w w' := by
  obtain ⟨W0, hW0⟩ : ∃ W0, W0 = w.alloc (.cells (bvs id).toArray 23) := ⟨_, rfl⟩
  have hb0 : Below w.heap.size w W0 := by rw [hW0]; exact (Below.refl _ _).alloc (Nat.le_refl _) _
  have I0 : Sl W0 (some ⟨w.heap.size, 0, none⟩) (bvs id) := by
    rw [hW0]
    exact Sl.of_block (heap_alloc_new _ _) (fun j v hj => by simpa using hj)
  have kf := find_any l hris h20 hn A c id hid W0 (hA.below hb0)
  have lid := load_id id hid _ _ I0
  have A0 := hA.below hb0
  obtain ⟨n, hnn⟩ : ∃ n, n = l.length := ⟨_, rfl⟩
  obtain ⟨k, hk⟩ : ∃ k, k = fk l id := ⟨_, rfl⟩
  rw [← hnn, ← hk] at kf
  rw [← hnn, ← hk]
  cases hf : fis l id with
  | false =>
    rw [hf] at kf
    have HW0 := Lib.hid hW0
    have Hb0 := Lib.hid hb0
    clear hW0 hb0 I0 hA A0 hnn hk hf h20 hris hn hid
    go_enter Try.func22, Try.ntmps22
    go_upto_region 1 with (fail)
    rw [← HW0.out]
    go_wp2_with (first
      | (refine wpList_loadG 23 (.tmp 3) rfl ⟨w.heap.size, 0, none⟩ rfl (idv id) lid rfl ?_)
      | (go_at_call 17; (with_reducible refine kf.mono ?_); rintro e w1 ⟨rfl, hb1⟩))
    go_ret2
    exact ⟨rfl, Hb0.out.trans (hb1.mono Hb0.out.size)⟩
  | true =>
    rw [hf] at kf
    obtain ⟨hkl, hkid⟩ : k < l.length ∧ l.getD k [] = id := by
      rw [hk]
      unfold fis at hf
      exact of_decide_eq_true hf
    have hx20 := fun i hi => get20 h20 i hi
    have h40 := mxc_le hris h20 k hkl
    have kh := fun w1 => hex_any id w1 hid
    have r2 : shortI l k true id = ((hexs id).take (shN l k), 0) := rfl
    rw [r2]
    obtain ⟨ad, rfl⟩ : ∃ ad, A = some ad := by
      cases A with
      | some ad => exact ⟨ad, rfl⟩
      | none =>
        have := sl_none hA h20
        rw [this] at hkl
        simp at hkl
    obtain ⟨u, hu⟩ : ∃ u : Nat, u = if 0 < k then cmn id (l.getD (k - 1) []) + 1 else 0 := ⟨_, rfl⟩
    obtain ⟨v, hv⟩ : ∃ v : Nat, v = if k + 1 < l.length then cmn id (l.getD (k + 1) []) + 1 else 0 := ⟨_, rfl⟩
    have hmx : mxc l k = max u v := by
      unfold mxc
      rw [hkid, ← hu, ← hv]
    have hsh : shN l k = min (max (max 4 u) v) 40 := by unfold shN; omega
    have huv : u ≤ 40 ∧ v ≤ 40 := by omega
    obtain ⟨hu40, hv40⟩ := huv
    obtain ⟨m, hm⟩ : ∃ m, m = shN l k := ⟨_, rfl⟩
    rw [← hm] at hsh ⊢
    clear hmx h40 hm r2
    have hn2 : n < 256 := by omega
    have hkn : k < n := by omega
    have ka := fun y (hy : y.length = 20) w1 => alike_cmn id y hid hy w1
    have hhl : (hexs id).length = 40 := by rw [hexs_len, hid]
    obtain ⟨H, hH⟩ : ∃ H, H = hexs id := ⟨_, rfl⟩
    rw [← hH] at hhl kh ⊢
    simp only [← hH] at ka
    have hl1 : 40 ≤ H.length := by omega
    have hl2 : H.length ≤ 40 := by omega
    have HW0 := Lib.hid hW0
    have Hb0 := Lib.hid hb0
    have HID := Lib.hid hid
    have HN := Lib.hid hnn
    have HA0 := Lib.hid A0; have HI0 := Lib.hid I0
    have HSH := Lib.hid hsh
    have HX20 := Lib.hid hx20
    have HROW := Lib.hid (fun i hi => sl_row A0 h20 i hi)
    clear hW0 hb0 I0 hA A0 hnn hk hf h20 hris hn hid hkid hsh hx20 hH hhl
    by_cases h0 : 0 < k
    · obtain ⟨j, rfl⟩ : ∃ j, k = j + 1 := ⟨k - 1, by omega⟩
      rw [if_pos h0, show j + 1 - 1 = j by omega] at hu
      have hjl : j < l.length := by rw [← HN.out]; omega
      have hwj : IntKind.i64.wrap (((j + 1 : Nat) : Int) - 1) = (j : Int) := by rw [IntWalk.i64_in _ (by omega)]; omega
      have R := Lib.hid (HROW.out j hjl)
      have X := Lib.hid (HX20.out j hjl)
      generalize l.getD j [] = x at hu R X
      have kx := ka x X.out
      obtain ⟨a, ha⟩ : ∃ a, a = cmn id x := ⟨_, rfl⟩
      rw [← ha] at hu
      simp only [← ha] at kx
      subst hu
      clear ha h0
      by_cases h1 : j + 1 + 1 < l.length
      · rw [if_pos h1] at hv
        have R2 := Lib.hid (HROW.out (j + 1 + 1) h1)
        have X2 := Lib.hid (HX20.out (j + 1 + 1) h1)
        generalize l.getD (j + 1 + 1) [] = y at hv R2 X2
        have ky := ka y X2.out
        obtain ⟨b, hbb⟩ : ∃ b, b = cmn id y := ⟨_, rfl⟩
        rw [← hbb] at hv
        simp only [← hbb] at ky
        subst hv
        have h1' : j + 1 + 1 < n := by rw [HN.out]; exact h1
        clear hbb h1 ka HROW HX20
        go_enter Try.func22, Try.ntmps22
        go_upto_region 1 with (fail)
        rw [← HW0.out]
        go_upto_region 4 with (first
          | (refine wpList_loadG 23 (.tmp 3) rfl ⟨w.heap.size, 0, none⟩ rfl (idv id) lid rfl ?_)
          | (go_at_call 17; (with_reducible refine kf.mono ?_); rintro e w1 ⟨rfl, hb1⟩))
        have lid1 := load_id id HID.out _ _ (HI0.out.below hb1)
        go_upto_region 5 with (first
          | (refine wpList_loadG 23 (.tmp 3) rfl ⟨w.heap.size, 0, none⟩ rfl (idv id) lid1 rfl ?_)
          | (go_at_call 11; (with_reducible refine (kh _).mono ?_); rintro e w2 ⟨rfl, hb2⟩))
        have b2 := hb1.trans (hb2.mono hb1.size)
        have lx := load_id x X.out _ _ (R.out.below b2)
        go_upto_region 7 with (first
          | (refine wpList_loadG 23 (.tmp 27) rfl (ad.add (j * 20)) rfl (idv x) lx rfl ?_)
          | (go_at_call 11; (with_reducible refine (hex_any x _ X.out).mono ?_); rintro e w3 ⟨rfl, hb3⟩)
          | (go_at_call 38; (with_reducible refine (kx _).mono ?_); rintro e w4 ⟨rfl, hb4⟩))
        have b3 := b2.trans (hb3.mono b2.size)
        have b4 := b3.trans (hb4.mono b3.size)
        have ly := load_id y X2.out _ _ (R2.out.below b4)
        go_upto_region 9 with (first
          | (refine wpList_loadG 23 (.tmp 43) rfl (ad.add ((j + 1 + 1) * 20)) rfl (idv y) ly rfl ?_)
          | (go_at_call 11; (with_reducible refine (hex_any y _ X2.out).mono ?_); rintro e w5 ⟨rfl, hb5⟩)
          | (go_at_call 38; (with_reducible refine (ky _).mono ?_); rintro e w6 ⟨rfl, hb6⟩))
        have b5 := b4.trans (hb5.mono b4.size)
        have b6 := b5.trans (hb6.mono b5.size)
        go_wp2_with fail
        go_ret2
        exact ⟨by rw [ext_take H _ m (by rw [HSH.out]; omega)]; rfl, Hb0.out.trans (b6.mono Hb0.out.size)⟩
      · rw [if_neg h1] at hv
        subst hv
        have h1' : ¬ (j + 1 + 1 < n) := by rw [HN.out]; exact h1
        obtain rfl : n = j + 1 + 1 := by omega
        clear h1 h1' ka HROW HX20
        go_enter Try.func22, Try.ntmps22
        go_upto_region 1 with (fail)
        rw [← HW0.out]
        go_upto_region 4 with (first
          | (refine wpList_loadG 23 (.tmp 3) rfl ⟨w.heap.size, 0, none⟩ rfl (idv id) lid rfl ?_)
          | (go_at_call 17; (with_reducible refine kf.mono ?_); rintro e w1 ⟨rfl, hb1⟩))
        have lid1 := load_id id HID.out _ _ (HI0.out.below hb1)
        go_upto_region 5 with (first
          | (refine wpList_loadG 23 (.tmp 3) rfl ⟨w.heap.size, 0, none⟩ rfl (idv id) lid1 rfl ?_)
          | (go_at_call 11; (with_reducible refine (kh _).mono ?_); rintro e w2 ⟨rfl, hb2⟩))
        have b2 := hb1.trans (hb2.mono hb1.size)
        have lx := load_id x X.out _ _ (R.out.below b2)
        go_upto_region 7 with (first
          | (refine wpList_loadG 23 (.tmp 27) rfl (ad.add (j * 20)) rfl (idv x) lx rfl ?_)
          | (go_at_call 11; (with_reducible refine (hex_any x _ X.out).mono ?_); rintro e w3 ⟨rfl, hb3⟩)
          | (go_at_call 38; (with_reducible refine (kx _).mono ?_); rintro e w4 ⟨rfl, hb4⟩))
        have b3 := b2.trans (hb3.mono b2.size)
        have b4 := b3.trans (hb4.mono b3.size)
        go_upto_region 9 with (fail)
        go_wp2_with fail
        go_ret2
        exact ⟨by rw [ext_take H _ m (by rw [HSH.out]; omega)]; rfl, Hb0.out.trans (b4.mono Hb0.out.size)⟩
    · obtain rfl : k = 0 := by omega
      rw [if_neg (by omega)] at hu
      subst hu
      by_cases h1 : 0 + 1 < l.length
      · rw [if_pos h1] at hv
        have R2 := Lib.hid (HROW.out (0 + 1) h1)
        have X2 := Lib.hid (HX20.out (0 + 1) h1)
        generalize l.getD (0 + 1) [] = y at hv R2 X2
        have ky := ka y X2.out
        obtain ⟨b, hbb⟩ : ∃ b, b = cmn id y := ⟨_, rfl⟩
        rw [← hbb] at hv
        simp only [← hbb] at ky
        subst hv
        have h1' : 1 < n := by rw [HN.out]; exact h1
        clear hbb h1 ka HROW HX20
        go_enter Try.func22, Try.ntmps22
        go_upto_region 1 with (fail)
        rw [← HW0.out]
        go_upto_region 4 with (first
          | (refine wpList_loadG 23 (.tmp 3) rfl ⟨w.heap.size, 0, none⟩ rfl (idv id) lid rfl ?_)
          | (go_at_call 17; (with_reducible refine kf.mono ?_); rintro e w1 ⟨rfl, hb1⟩))
        have lid1 := load_id id HID.out _ _ (HI0.out.below hb1)
        go_upto_region 5 with (first
          | (refine wpList_loadG 23 (.tmp 3) rfl ⟨w.heap.size, 0, none⟩ rfl (idv id) lid1 rfl ?_)
          | (go_at_call 11; (with_reducible refine (kh _).mono ?_); rintro e w2 ⟨rfl, hb2⟩))
        have b2 := hb1.trans (hb2.mono hb1.size)
        have ly := load_id y X2.out _ _ (R2.out.below b2)
        go_upto_region 9 with (first
          | (refine wpList_loadG 23 (.tmp 43) rfl (ad.add ((0 + 1) * 20)) rfl (idv y) ly rfl ?_)
          | (go_at_call 11; (with_reducible refine (hex_any y _ X2.out).mono ?_); rintro e w5 ⟨rfl, hb5⟩)
          | (go_at_call 38; (with_reducible refine (ky _).mono ?_); rintro e w6 ⟨rfl, hb6⟩))
        have b5 := b2.trans (hb5.mono b2.size)
        have b6 := b5.trans (hb6.mono b5.size)
        go_wp2_with fail
        go_ret2
        exact ⟨by rw [ext_take H _ m (by rw [HSH.out]; omega)]; rfl, Hb0.out.trans (b6.mono Hb0.out.size)⟩
      · rw [if_neg h1] at hv
        subst hv
        have h1' : ¬ (0 + 1 < n) := by rw [HN.out]; exact h1
        obtain rfl : n = 1 := by omega
        clear h1 h1' ka HROW HX20
        go_enter Try.func22, Try.ntmps22
        go_upto_region 1 with (fail)
        rw [← HW0.out]
        go_upto_region 4 with (first
          | (refine wpList_loadG 23 (.tmp 3) rfl ⟨w.heap.size, 0, none⟩ rfl (idv id) lid rfl ?_)
          | (go_at_call 17; (with_reducible refine kf.mono ?_); rintro e w1 ⟨rfl, hb1⟩))
        have lid1 := load_id id HID.out _ _ (HI0.out.below hb1)
        go_upto_region 9 with (first
          | (refine wpList_loadG 23 (.tmp 3) rfl ⟨w.heap.size, 0, none⟩ rfl (idv id) lid1 rfl ?_)
          | (go_at_call 11; (with_reducible refine (kh _).mono ?_); rintro e w2 ⟨rfl, hb2⟩))
        have b2 := hb1.trans (hb2.mono hb1.size)
        go_wp2_with fail
        go_ret2
        exact ⟨by rw [ext_take H _ m (by rw [HSH.out]; omega)]; rfl, Hb0.out.trans (b2.mono Hb0.out.size)⟩
end
section
open Go.RowKit
set_option maxRecDepth 100000
set_option maxHeartbeats 4000000
set_option linter.unusedVariables false
theorem fits_snoc (l : List (List UInt8)) (i : Nat) (hi : i < l.length) (p : List UInt8) : fits (l.take (i + 1)) p = if preB (hexs (l.getD i [])) p = true then fits (l.take i) p ++ [l.getD i []] else fits (l.take i) p := by
  have : l.getD i [] = l[i] := by rw [List.getD_eq_getElem?_getD, List.getElem?_eq_getElem hi]; rfl
  unfold fits
  rw [List.take_succ_eq_append_getElem hi, List.filter_append, this, List.filter_cons]
  split
  · rfl
  · simp
theorem fits_le (l : List (List UInt8)) (p : List UInt8) : (fits l p).length ≤ l.length := List.length_filter_le _ _
theorem fits_le_i (l : List (List UInt8)) (i : Nat) (p : List UInt8) : (fits (l.take i) p).length ≤ i := Nat.le_trans (fits_le _ p) (List.length_take_le _ _)
theorem ext_nat (h : List UInt8) (m : Nat) : (bstr h).extract 0 m = bstr (h.take m) := ext_take h (m : Int) m rfl
theorem refshort_any (l : List (List UInt8)) (hris : Ris l) (h20 : All20 l) (hn : l.length < 256) (A : Option Addr) (c : Nat) (id : List UInt8) (hid : id.length = 20) (w : World) (hA : Sl w A (idc l)) :
    Calls Try.prog 23 #[.slice A l.length c, idv id] w fun e w' => e = .returned (.tuple #[.string (bstr (shortI l (fk l id) (fis l id) id).1), .int .i64 ((shortI l (fk l id) (fis l id) id).2 : Nat)]) ∧ Below w.heap.size w w' := by
  obtain ⟨W0, hW0⟩ : ∃ W0, W0 = w.alloc (.cells (bvs id).toArray 22) := ⟨_, rfl⟩
  have hb0 : Below w.heap.size w W0 := by rw [hW0]; exact (Below.refl _ _).alloc (Nat.le_refl _) _
  have I0 : Sl W0 (some ⟨w.heap.size, 0, none⟩) (bvs id) := by
    rw [hW0]
    exact Sl.of_block (heap_alloc_new _ _) (fun j v hj => by simpa using hj)
  have kf := reffind_any l h20 hn A c id hid W0 (hA.below hb0)
  have lid := load_id22 id hid _ _ I0
  have A0 := hA.below hb0
  obtain ⟨n, hnn⟩ : ∃ n, n = l.length := ⟨_, rfl⟩
  obtain ⟨k, hk⟩ : ∃ k, k = fk l id := ⟨_, rfl⟩
  rw [← hnn, ← hk] at kf
  rw [← hnn, ← hk]
  cases hf : fis l id with
  | false =>
    rw [hf] at kf
    have HW0 := Lib.hid hW0
    have Hb0 := Lib.hid hb0
    clear hW0 hb0 I0 hA A0 hnn hk hf h20 hris hn hid
    go_enter Try.func23, Try.ntmps23
    go_upto_region 1 with (fail)
    rw [← HW0.out]
    go_wp2_with (first
      | (refine wpList_loadG 22 (.tmp 3) rfl ⟨w.heap.size, 0, none⟩ rfl (idv id) lid rfl ?_)
      | (go_at_call 18; (with_reducible refine kf.mono ?_); rintro e w1 ⟨rfl, hb1⟩))
    go_ret2
    exact ⟨rfl, Hb0.out.trans (hb1.mono Hb0.out.size)⟩
  | true =>
    rw [hf] at kf
    obtain ⟨hkl, hkid⟩ : k < l.length ∧ l.getD k [] = id := by
      rw [hk]
      unfold fis at hf
      exact of_decide_eq_true hf
    have h40 := mxc_le hris h20 k hkl
    have kh := fun w1 => hexRef_any id w1 hid
    have r2 : shortI l k true id = ((hexs id).take (shN l k), 0) := rfl
    rw [r2]
    obtain ⟨ad, rfl⟩ : ∃ ad, A = some ad := by
      cases A with
      | some ad => exact ⟨ad, rfl⟩
      | none =>
        have := sl_none hA h20
        rw [this] at hkl
        simp at hkl
    have one := fun m (h1 : m ≤ 40) (h2 : mxc l k ≤ m) => fits_one hris h20 k hkl m h1 h2
    have more := fun m (h : m < mxc l k) => fits_more hris h20 k hkl m h
    rw [hkid] at one more
    obtain ⟨z, hz⟩ : ∃ z, z = max 4 (mxc l k) := ⟨_, rfl⟩
    have hsh : shN l k = min 40 z := by unfold shN; omega
    have hhl : (hexs id).length = 40 := by rw [hexs_len, hid]
    obtain ⟨H, hH⟩ : ∃ H, H = hexs id := ⟨_, rfl⟩
    rw [← hH] at hhl kh one more ⊢
    have one2 : ∀ m, 4 ≤ m → m ≤ 40 → z ≤ m → (fits l (H.take m)).length = 1 := fun m h0 h1 h2 => by rw [one m h1 (by omega)]; rfl
    have more2 : ∀ m, 4 ≤ m → m < z → (fits l (H.take m)).length ≠ 1 := fun m h0 h => by have := more m (by omega); omega
    have hl1 : 40 ≤ H.length := by omega
    have hl2 : H.length ≤ 40 := by omega
    have hz4 : 4 ≤ z := by omega
    have hz40 : z ≤ 40 := by omega
    have hn2 : n < 256 := by omega
    have ONE := Lib.hid one2; have MORE := Lib.hid more2
    have HW0 := Lib.hid hW0
    have Hb0 := Lib.hid hb0
    have HID := Lib.hid hid
    have HN := Lib.hid hnn
    have HA0 := Lib.hid A0; have HI0 := Lib.hid I0
    have HSH := Lib.hid hsh
    have HX20 := Lib.hid (fun i hi => get20 h20 i hi)
    have HROW := Lib.hid (fun i hi => sl_row A0 h20 i hi)
    clear hW0 hb0 I0 hA A0 hnn hk hf h20 hris hn hid hkid hsh hH hhl hz h40 one more one2 more2 r2
    go_enter Try.func23, Try.ntmps23
    go_upto_region 1 with (fail)
    rw [← HW0.out]
    go_upto_region 4 with (first
      | (refine wpList_loadG 22 (.tmp 3) rfl ⟨w.heap.size, 0, none⟩ rfl (idv id) lid rfl ?_)
      | (go_at_call 18; (with_reducible refine kf.mono ?_); rintro e w1 ⟨rfl, hb1⟩))
    have lid1 := load_id22 id HID.out _ _ (HI0.out.below hb1)
    go_upto_region 5 with (first
      | (refine wpList_loadG 22 (.tmp 3) rfl ⟨w.heap.size, 0, none⟩ rfl (idv id) lid1 rfl ?_)
      | (go_at_call 12; (with_reducible refine (kh _).mono ?_); rintro e w2 ⟨rfl, hb2⟩))
    have b2 := hb1.trans (hb2.mono hb1.size)
    have B2 := Lib.hid (Hb0.out.trans (b2.mono Hb0.out.size))
    have ROW2 := Lib.hid (fun i hi => (HROW.out i hi).below b2)
    clear kf kh lid lid1 hb1 hb2 b2 HROW HI0 HA0 Hb0 HW0
    go_wp2_with fail
    go_loopw [9] (fun t9 wr => ∃ m : Nat, t9 = .int .i64 (m : Int) ∧ 4 ≤ m ∧ m ≤ z ∧ Below w2.heap.size w2 wr) (fun t9 _ => (40 - intOf t9).toNat)
    case atStart => exact ⟨4, rfl, by omega, by omega, Below.refl _ _⟩
    case round =>
      obtain ⟨m, rfl, h4, hmz, hbw⟩ := hrel
      by_cases hm40 : m < 40
      · obtain ⟨p, hp⟩ : ∃ p, p = H.take m := ⟨_, rfl⟩
        have hpl : p.length = m := by rw [hp, List.length_take]; omega
        have esl : (bstr H).extract 0 m = bstr p := by rw [hp]; exact ext_nat H m
        have one := ONE.out m h4 (by omega)
        have more := MORE.out m h4
        rw [← hp] at one more
        have ONE1 := Lib.hid one; have MORE1 := Lib.hid more; have ESL := Lib.hid esl; have HPL := Lib.hid hpl
        have HP := Lib.hid hp
        clear one more hp esl hpl
        go_wp2_with fail
        go_loopw [10, 11] (fun t10 t11 wq => ∃ i q : Nat, t10 = .int .i64 (q : Int) ∧ t11 = .int .i64 (i : Int) ∧ i ≤ n ∧ q ≤ i ∧ Hid (q = (fits (l.take i) p).length) ∧ Below w2.heap.size w2 wq) (fun _ t11 _ => (n - intOf t11).toNat)
        case atStart => exact ⟨0, 0, rfl, rfl, by omega, by omega, Lib.hid (by simp [fits]), hbw⟩
        case round =>
          obtain ⟨i, q, rfl, rfl, hi, hqi, HQ, hbq⟩ := hrel
          by_cases hin : i < n
          · have hil : i < l.length := by rw [← HN.out]; exact hin
            have R := (ROW2.out i hil).below hbq
            have X := HX20.out i hil
            have FS := Lib.hid (fits_snoc l i hil p)
            generalize l.getD i [] = x at R X FS
            have lx : ∀ w', Below wr.heap.size wr w' → (loadVar 22 (ad.add (i * 20))).run Try.prog w' = .ok (idv x) w' := fun w' h => load_id22 x X _ _ (R.below h)
            have c1 : ∀ w', Below wr.heap.size wr w' → Calls Try.prog 12 #[idv x] w' fun e w'' => e = .returned (.string (bstr (hexs x))) ∧ Below wr.heap.size wr w'' := fun w' h => quietB h (hexRef_any x w' X)
            have c2 : ∀ w', Below wr.heap.size wr w' → Calls Try.prog 39 #[.string (bstr (hexs x)), .string ((bstr H).extract 0 m)] w' fun e w'' => e = .returned (.bool (preB (hexs x) p)) ∧ Below wr.heap.size wr w'' := fun w' h => by
              have := quietS h (pre39 (bstr (hexs x)) (bstr p) (by rw [bstr_size, hexs_len, X]; decide) (by rw [bstr_size, HPL.out]; omega) w')
              have e1 : ∀ l : List UInt8, (bstr l).data.toList = l := fun l => by simp
              rw [e1, e1] at this
              rw [ESL.out]
              exact this
            have LX := Lib.hid lx
            clear lx R X
            cases hq : preB (hexs x) p with
            | true =>
              rw [hq] at c2
              have FS1 := FS.out
              rw [hq, if_pos rfl] at FS1
              have FS1 := Lib.hid FS1
              clear hq FS
              go_wp2_with fail
              refine wp_region_quietC (C := fun w' => Below wr.heap.size wr w') (Below.refl _ _).drew (by kernel_rfl) (by kernel_rfl) ?_
              repeat (first
                | (refine wpQuiet_load 22 (.tmp 34) rfl (ad.add (i * 20)) rfl (idv x) LX.out _ rfl rfl ?_; simp only [List.set_cons_succ, List.set_cons_zero])
                | go_big_quiet_step ((intro hb; first | (with_reducible exact c1 _ hb) | (with_reducible exact c2 _ hb) | rfl)))
              refine wpQuiet_nil ?_
              intro w' hw'
              go_wp2
              go_roundw
              case rel => exact ⟨i + 1, q + 1, by simp, by simp, by omega, by omega, Lib.hid (by rw [FS1.out, List.length_append, ← HQ.out]; rfl), hbq.trans (hw'.mono hbq.size)⟩
              case measure => simp only [intOf]; omega
            | false =>
              rw [hq] at c2
              have FS1 := FS.out
              rw [hq, if_neg (by decide)] at FS1
              have FS1 := Lib.hid FS1
              clear hq FS
              go_wp2_with fail
              refine wp_region_quietC (C := fun w' => Below wr.heap.size wr w') (Below.refl _ _).drew (by kernel_rfl) (by kernel_rfl) ?_
              repeat (first
                | (refine wpQuiet_load 22 (.tmp 34) rfl (ad.add (i * 20)) rfl (idv x) LX.out _ rfl rfl ?_; simp only [List.set_cons_succ, List.set_cons_zero])
                | go_big_quiet_step ((intro hb; first | (with_reducible exact c1 _ hb) | (with_reducible exact c2 _ hb) | rfl)))
              refine wpQuiet_nil ?_
              intro w' hw'
              go_wp2
              go_roundw
              case rel => exact ⟨i + 1, q, rfl, by simp, by omega, by omega, Lib.hid (by rw [FS1.out]; exact HQ.out), hbq.trans (hw'.mono hbq.size)⟩
              case measure => simp only [intOf]; omega
          · obtain rfl : i = n := by omega
            have hq := HQ.out
            rw [HN.out, List.take_of_length_le (Nat.le_refl _)] at hq
            by_cases hzm : z ≤ m
            · have h1 := ONE1.out hzm
              rw [← hq] at h1
              subst h1
              have hsm : shN l k = m := by rw [HSH.out]; omega
              have HSM := Lib.hid hsm
              have hqb : (((1 : Nat) : Int) == 1) = true := rfl
              clear hq
              go_wp2
              go_ret2
              exact ⟨by rw [HSM.out, ← HP.out, ← ESL.out]; rfl, B2.out.trans (hbq.mono B2.out.size)⟩
            · have h1 := MORE1.out (by omega)
              rw [← hq] at h1
              have hqb : ((q : Int) == 1) = false := beq_eq_false_iff_ne.2 (by omega)
              clear hq
              go_wp2
              go_roundw
              case rel => exact ⟨m + 1, by simp, by omega, by omega, hbq⟩
              case measure => simp only [intOf]; omega
      · obtain rfl : m = 40 := by omega
        have hsm : shN l k = 40 := by rw [HSH.out]; omega
        have HSM := Lib.hid hsm
        have hd : decide (((40 : Nat) : Int) < 40) = false := rfl
        clear hsm
        go_wp2
        go_ret2
        exact ⟨by rw [HSM.out, List.take_of_length_le hl2]; rfl, B2.out.trans (hbw.mono B2.out.size)⟩
end
section
open Go.RowKit
set_option maxRecDepth 100000
set_option maxHeartbeats 4000000
set_option linter.unusedVariables false
theorem good_iff (s : ByteArray) : goodF s.data.toList = true ↔ 4 ≤ s.size ∧ s.size ≤ 40 ∧ allHex s.data.toList := by
  have e : s.data.toList.length = s.size := by simp
  unfold goodF
  rw [e]
  exact decide_eq_true_iff
theorem match_bad {l : List (List UInt8)} {p : List UInt8} (h : goodF p = false) : matchI l p = (zs20, 2) := by unfold matchI; rw [h]; rfl
theorem match_none {l : List (List UInt8)} {p : List UInt8} (h : goodF p = true) (hf : fits l p = []) : matchI l p = (zs20, 6) := by unfold matchI; rw [h, hf]; rfl
theorem match_one {l : List (List UInt8)} {p : List UInt8} {x : List UInt8} (h : goodF p = true) (hf : fits l p = [x]) : matchI l p = (x, 0) := by unfold matchI; rw [h, hf]; rfl
theorem match_many {l : List (List UInt8)} {p : List UInt8} (h : goodF p = true) (hf : 2 ≤ (fits l p).length) : matchI l p = (zs20, 9) := by
  unfold matchI
  rw [h, if_pos rfl]
  generalize fits l p = q at hf
  match q, hf with
  | [], h2 => simp at h2
  | [_], h2 => simp at h2
  | _ :: _ :: _, _ => rfl
theorem fits_20 {l : List (List UInt8)} (h : All20 l) (p : List UInt8) : All20 (fits l p) := fun x hx => h x (List.mem_filter.1 hx).1
theorem match_any (l : List (List UInt8)) (h20 : All20 l) (hn : l.length < 256) (A : Option Addr) (c : Nat) (s : ByteArray) (hs : s.size ≤ 1099511627776) (w : World) (hA : Sl w A (idc l)) :
    Calls Try.prog 24 #[.slice A l.length c, .string s] w fun e w' => e = .returned (.tuple #[idv (matchI l s.data.toList).1, .int .i64 ((matchI l s.data.toList).2 : Nat)]) ∧ Below w.heap.size w w' := by
  have gi := good_iff s
  have zi := Lib.hid (info23 zs20 zs20_len)
  obtain ⟨W, hW⟩ : ∃ W, W = w.alloc (.cells (bvs zs20).toArray 23) := ⟨_, rfl⟩
  have hb0 : Below w.heap.size w W := by rw [hW]; exact (Below.refl _ _).alloc (Nat.le_refl _) _
  have r0 : W.heap[w.heap.size]? = some (.cells (bvs zs20).toArray 23 (0, 0)) := by rw [hW]; exact heap_alloc_new _ _
  have hg1 : w.heap.size < W.heap.size := (Array.getElem?_eq_some_iff.1 r0).1
  have ki := isHex_any s W hs
  have A0 := hA.below hb0
  obtain ⟨n, hnn⟩ : ∃ n, n = l.length := ⟨_, rfl⟩
  rw [← hnn]
  have hn2 : n < 256 := by omega
  obtain ⟨p, hp⟩ : ∃ p, p = s.data.toList := ⟨_, rfl⟩
  rw [← hp] at ki gi ⊢
  have HW := Lib.hid hW; have R0 := Lib.hid r0; have HB0 := Lib.hid hb0; have HN := Lib.hid hnn; have HP := Lib.hid hp; have H20 := Lib.hid h20
  have HA0 := Lib.hid A0
  have RowAll := Lib.hid (fun ad (h : A = some ad) i hi => sl_row (by rw [h] at A0; exact A0) h20 i hi)
  clear hW r0 hb0 hnn hp h20 hA A0 hn
  by_cases hg : goodF p = true
  · obtain ⟨g1, g2, g3⟩ := gi.1 hg
    have q3 : decide (allHex p) = true := decide_eq_true g3
    rw [q3] at ki
    have HG := Lib.hid hg
    clear gi hg g3 q3
    go_enter Try.func24, Try.ntmps24
    go_upto_region 1 with fail
    simp only [zlit]
    rw [← HW.out]
    go_wp2_with (go_at_call 26; (with_reducible refine ki.mono ?_); rintro e w1 ⟨rfl, rfl⟩)
    have own0 : W.ownsRow W.heap.size 23 20 (.slice none 0 0) 0 (idc (fits (l.take 0) p)) := ⟨by simp [idc, fits], .inl ⟨rfl, rfl⟩⟩
    go_loopw [6, 25] (fun t6 t25 wr => ∃ i q : Nat, t25 = .int .i64 (i : Int) ∧ i ≤ n ∧ q ≤ i ∧ Hid (q = (fits (l.take i) p).length) ∧ wr.ownsRow W.heap.size 23 20 t6 q (idc (fits (l.take i) p)) ∧ Below W.heap.size W wr) (fun _ t25 _ => (n - intOf t25).toNat)
    case atStart => exact ⟨0, 0, rfl, by omega, by omega, Lib.hid (by simp [fits]), own0, Below.refl _ _⟩
    case round =>
      clear own0
      obtain ⟨i, q, rfl, hi, hqi, HQ, hown, hbw⟩ := hrel
      by_cases hin : i < n
      · have hil : i < l.length := by rw [← HN.out]; exact hin
        obtain ⟨ad, rfl⟩ : ∃ ad, A = some ad := by
          cases A with
          | some ad => exact ⟨ad, rfl⟩
          | none =>
            have := sl_none HA0.out H20.out
            rw [this] at hil
            simp at hil
        have R := (RowAll.out ad rfl i hil).below hbw
        have X := get20 H20.out i hil
        have FS := Lib.hid (fits_snoc l i hil p)
        generalize l.getD i [] = x at R X FS
        have lx := load_id x X _ _ R
        have zx := Lib.hid (info23 x X)
        obtain ⟨r1, b1⟩ := new_set wr 23 (bvs zs20).toArray (bvs x).toArray
        obtain ⟨W1, hW1⟩ : ∃ W1, W1 = (wr.alloc (.cells (bvs zs20).toArray 23)).setRow wr.heap.size (bvs x).toArray := ⟨_, rfl⟩
        rw [← hW1] at r1 b1
        have HW1 := Lib.hid hW1
        have X1 : Sl W1 (some ⟨wr.heap.size, 0, none⟩) (bvs x) := Sl.of_block r1 (fun j v hj => by simpa using hj)
        have bb1 := hbw.trans (b1.mono hbw.size)
        have OW1 := ownsRow_below hown b1
        have lx1 := load_id x X _ _ X1
        have kh := hex_any x W1 X
        have HX := Lib.hid X
        have HX1 := Lib.hid X1
        have OW1 := Lib.hid OW1
        have hlx : (bvs zs20).toArray.size = (bvs x).toArray.size := by simp [X, zs20_len]
        have HLX := Lib.hid hlx
        clear R X hW1 r1 b1 hbw hown X1 hlx
        go_upto_region 7 with (first
          | (refine wpList_loadG 23 (.tmp 27) rfl (ad.add (i * 20)) rfl (idv x) lx rfl ?_)
          | (refine wpList_store_row rfl 23 (.tmp 8) (.tmp 28) rfl wr.heap.size (bvs x).toArray rfl rfl 23 (bvs zs20).toArray (heap_alloc_new _ _) zx.out HLX.out (one_bvs _) ?_))
        simp only [zlit]
        rw [← HW1.out]
        have kp : ∀ w2, Calls Try.prog 40 #[.string (bstr (hexs x)), .string s] w2 fun e w' => e = .returned (.bool (preB (hexs x) p)) ∧ w2 = w' := fun w2 => by
          have := pre40 (bstr (hexs x)) s (by rw [bstr_size, hexs_len, HX.out]; decide) hs w2
          rwa [show (bstr (hexs x)).data.toList = hexs x by simp, ← HP.out] at this
        cases hq : preB (hexs x) p with
        | false =>
          rw [hq] at kp
          have FS1 := FS.out
          rw [hq, if_neg (by decide)] at FS1
          have FS1 := Lib.hid FS1
          clear hq FS
          go_wp2_with (first
            | (refine wpList_loadG 23 (.tmp 8) rfl ⟨wr.heap.size, 0, none⟩ rfl (idv x) lx1 rfl ?_)
            | (go_at_call 11; (with_reducible refine kh.mono ?_); rintro e w2 ⟨rfl, hb2⟩)
            | (go_at_call 40; (with_reducible refine (kp _).mono ?_); rintro e w3 ⟨rfl, rfl⟩))
          have b2 := bb1.trans (hb2.mono bb1.size)
          have OW2 := ownsRow_below OW1.out hb2
          go_roundw
          case rel => exact ⟨i + 1, q, by simp, by omega, by omega, Lib.hid (by rw [FS1.out]; exact HQ.out), by rw [FS1.out]; exact OW2, b2⟩
          case measure => simp only [intOf]; omega
        | true =>
          rw [hq] at kp
          have FS1 := FS.out
          rw [hq, if_pos rfl] at FS1
          have FS1 := Lib.hid FS1
          clear hq FS
          go_upto_region 8 with (first
            | (refine wpList_loadG 23 (.tmp 8) rfl ⟨wr.heap.size, 0, none⟩ rfl (idv x) lx1 rfl ?_)
            | (go_at_call 11; (with_reducible refine kh.mono ?_); rintro e w2 ⟨rfl, hb2⟩)
            | (go_at_call 40; (with_reducible refine (kp _).mono ?_); rintro e w3 ⟨rfl, rfl⟩))
          have b2 := bb1.trans (hb2.mono bb1.size)
          have OW2 := ownsRow_below OW1.out hb2
          have lx2 := load_id x HX.out _ _ (HX1.out.below hb2)
          have fl := fold_lit x HX.out
          rw [← zlit] at fl
          have hba : Below w2.heap.size w2 (w2.alloc (.cells (bvs x).toArray 23)) := (Below.refl _ _).alloc (Nat.le_refl _) _
          have ow3 := Lib.hid (ownsRow_below OW2 hba)
          have sx := Lib.hid (Sl.of_block (off := 0) (heap_alloc_new w2 (.cells (bvs x).toArray 23)) (l := bvs x) (fun j v hj => by simpa using hj))
          have bb3 := Lib.hid (b2.trans (hba.mono b2.size))
          have h2 := b2.size
          have hxl := HX.out
          clear b2 OW2 hb2 bb1
          go_wp2_with (first
            | (refine wpList_loadG 23 (.tmp 8) rfl ⟨wr.heap.size, 0, none⟩ rfl (idv x) lx2 rfl ?_)
            | (at_builtin
               refine wpList_app rfl (.tmp 33) (.tmp 35) 36 rfl W.heap.size 23 (idv zs20) 20 20 Try.underlying36 Try.info23 (by show (bvs zs20).toArray.size = 20; simp [zs20_len]) (by decide) _ q (idc (fits (l.take i) p)) rfl ow3.out (some ⟨w2.heap.size, 0, none⟩) 1 1 (bvs x) rfl (by simp [HX.out]) sx.out (bvs_one x) (by omega) (by unfold maxLen; omega) (by simp; omega) ?_
               intro v4 w4 hw4 hg4))
          go_roundw
          case rel => exact ⟨i + 1, q + 1, by simp, by omega, by omega, Lib.hid (by rw [FS1.out, List.length_append, ← HQ.out]; rfl), by rw [FS1.out, show idc (fits (l.take i) p ++ [x]) = idc (fits (l.take i) p) ++ bvs x by simp [idc]]; exact hw4, Below.app bb3.out ow3.out hg4 (by simp; omega)⟩
          case measure => simp only [intOf]; omega
      · obtain rfl : i = n := by omega
        have hq := HQ.out
        rw [HN.out, List.take_of_length_le (Nat.le_refl _)] at hq hown
        have F20 := Lib.hid (fits_20 H20.out p)
        have R1 := (hbw.block _ hg1).trans R0.out
        have R1 := Lib.hid R1
        obtain ⟨A6, c6, hv, _, _, hs6⟩ := (Win.ofOwns hown).reads
        subst hv
        have HS6 := Lib.hid hs6
        have HQ1 := Lib.hid hq
        have bw := HB0.out.trans (hbw.mono HB0.out.size)
        have BW := Lib.hid bw
        clear hq hown hbw bw hs6 RowAll HA0
        by_cases q0 : q = 0
        · subst q0
          have HM := Lib.hid (match_none (l := l) HG.out (List.eq_nil_of_length_eq_zero HQ1.out.symm))
          go_wp2_with (refine wpList_store_row rfl 23 (.tmp 4) (.tmp 42) rfl w.heap.size (bvs zs20).toArray rfl rfl 23 _ R1.out zi.out rfl (one_bvs _) ?_)
          refine bodyPost_ret (results_cell_tmp1 rfl _ _ w.heap.size 23 (bvs zs20).toArray (0, 0) _ rfl (setRow_heap _ _ _ _ _ _ R1.out) Try.underlying23 rfl zi.out) rfl ?_
          exact ⟨by rw [HM.out]; rfl, below_setRow BW.out _ (Nat.le_refl _) _⟩
        · by_cases q1 : q = 1
          · subst q1
            obtain ⟨x, hx⟩ : ∃ x, fits l p = [x] := List.length_eq_one_iff.1 HQ1.out.symm
            have HM := Lib.hid (match_one HG.out hx)
            have x20 : x.length = 20 := F20.out x (by rw [hx]; simp)
            have hs6 := HS6.out
            rw [hx, show idc [x] = bvs x by simp [idc]] at hs6
            obtain ⟨ad, rfl⟩ : ∃ ad, A6 = some ad := by
              cases A6 with
              | some ad => exact ⟨ad, rfl⟩
              | none =>
                obtain ⟨ad, e, _⟩ := hs6 0 _ (List.getElem?_eq_getElem (by rw [bvs_length, x20]; decide))
                cases e
            have lx := load_id x x20 _ _ hs6
            have zx := Lib.hid (info23 x x20)
            have hlx : (bvs zs20).toArray.size = (bvs x).toArray.size := by simp [x20, zs20_len]
            have HLX := Lib.hid hlx
            clear hx x20 hs6 hlx q0
            go_wp2_with (first
              | (refine wpList_loadG 23 (.tmp 46) rfl ad rfl (idv x) lx rfl ?_)
              | (refine wpList_store_row rfl 23 (.tmp 4) (.tmp 47) rfl w.heap.size (bvs x).toArray rfl rfl 23 _ R1.out zx.out HLX.out (one_bvs _) ?_))
            refine bodyPost_ret (results_cell_tmp1 rfl _ _ w.heap.size 23 (bvs x).toArray (0, 0) _ rfl (setRow_heap _ _ _ _ _ _ R1.out) Try.underlying23 rfl zx.out) rfl ?_
            exact ⟨by rw [HM.out]; rfl, below_setRow BW.out _ (Nat.le_refl _) _⟩
          · have HM := Lib.hid (match_many (l := l) HG.out (by rw [← HQ1.out]; omega))
            have e0 : ((q : Int) == 0) = false := beq_eq_false_iff_ne.2 (by omega)
            have e1 : ((q : Int) == 1) = false := beq_eq_false_iff_ne.2 (by omega)
            go_wp2_with (refine wpList_store_row rfl 23 (.tmp 4) (.tmp 48) rfl w.heap.size (bvs zs20).toArray rfl rfl 23 _ R1.out zi.out rfl (one_bvs _) ?_)
            refine bodyPost_ret (results_cell_tmp1 rfl _ _ w.heap.size 23 (bvs zs20).toArray (0, 0) _ rfl (setRow_heap _ _ _ _ _ _ R1.out) Try.underlying23 rfl zi.out) rfl ?_
            exact ⟨by rw [HM.out]; rfl, below_setRow BW.out _ (Nat.le_refl _) _⟩
  · have hg : goodF p = false := by simpa using hg
    have HM := Lib.hid (match_bad (l := l) hg)
    have q : s.size < 4 ∨ (4 ≤ s.size ∧ 40 < s.size) ∨ (4 ≤ s.size ∧ s.size ≤ 40 ∧ decide (allHex p) = false) := by
      rcases Nat.lt_or_ge s.size 4 with g | g
      · exact .inl g
      · rcases Nat.lt_or_ge 40 s.size with g' | g'
        · exact .inr (.inl ⟨g, g'⟩)
        · refine .inr (.inr ⟨g, g', ?_⟩)
          refine decide_eq_false (fun h => ?_)
          rw [gi.2 ⟨g, g', h⟩] at hg
          cases hg
    clear gi hg HA0 RowAll H20 HP HN
    rcases q with g | ⟨g, g'⟩ | ⟨g, g', q3⟩
    · clear ki
      go_enter Try.func24, Try.ntmps24
      go_upto_region 1 with fail
      simp only [zlit]
      rw [← HW.out]
      go_wp2_with (refine wpList_store_row rfl 23 (.tmp 4) (.tmp 22) rfl w.heap.size (bvs zs20).toArray rfl rfl 23 _ R0.out zi.out rfl (one_bvs _) ?_)
      refine bodyPost_ret (results_cell_tmp1 rfl _ _ w.heap.size 23 (bvs zs20).toArray (0, 0) _ rfl (setRow_heap _ _ _ _ _ _ R0.out) Try.underlying23 rfl zi.out) rfl ?_
      exact ⟨by rw [HM.out]; rfl, below_setRow HB0.out _ (Nat.le_refl _) _⟩
    · clear ki
      go_enter Try.func24, Try.ntmps24
      go_upto_region 1 with fail
      simp only [zlit]
      rw [← HW.out]
      go_wp2_with (refine wpList_store_row rfl 23 (.tmp 4) (.tmp 22) rfl w.heap.size (bvs zs20).toArray rfl rfl 23 _ R0.out zi.out rfl (one_bvs _) ?_)
      refine bodyPost_ret (results_cell_tmp1 rfl _ _ w.heap.size 23 (bvs zs20).toArray (0, 0) _ rfl (setRow_heap _ _ _ _ _ _ R0.out) Try.underlying23 rfl zi.out) rfl ?_
      exact ⟨by rw [HM.out]; rfl, below_setRow HB0.out _ (Nat.le_refl _) _⟩
    · rw [q3] at ki
      clear q3
      go_enter Try.func24, Try.ntmps24
      go_upto_region 1 with fail
      simp only [zlit]
      rw [← HW.out]
      go_wp2_with (first
        | (go_at_call 26; (with_reducible refine ki.mono ?_); rintro e w1 ⟨rfl, rfl⟩)
        | (refine wpList_store_row rfl 23 (.tmp 4) (.tmp 22) rfl w.heap.size (bvs zs20).toArray rfl rfl 23 _ R0.out zi.out rfl (one_bvs _) ?_))
      refine bodyPost_ret (results_cell_tmp1 rfl _ _ w.heap.size 23 (bvs zs20).toArray (0, 0) _ rfl (setRow_heap _ _ _ _ _ _ R0.out) Try.underlying23 rfl zi.out) rfl ?_
      exact ⟨by rw [HM.out]; rfl, below_setRow HB0.out _ (Nat.le_refl _) _⟩
end
section
open Go.RowKit
set_option maxRecDepth 100000
set_option maxHeartbeats 4000000
set_option linter.unusedVariables false
theorem refmatch_any (l : List (List UInt8)) (h20 : All20 l) (hn : l.length < 256) (A : Option Addr) (c : Nat) (s : ByteArray) (hs : s.size ≤ 1099511627776) (w : World) (hA : Sl w A (idc l)) :
    Calls Try.prog 25 #[.slice A l.length c, .string s] w fun e w' => e = .returned (.tuple #[idv (matchI l s.data.toList).1, .int .i64 ((matchI l s.data.toList).2 : Nat)]) ∧ Below w.heap.size w w' := by
  have gi := good_iff s
  have zi := Lib.hid (info22 zs20 zs20_len)
  obtain ⟨W, hW⟩ : ∃ W, W = w.alloc (.cells (bvs zs20).toArray 22) := ⟨_, rfl⟩
  have hb0 : Below w.heap.size w W := by rw [hW]; exact (Below.refl _ _).alloc (Nat.le_refl _) _
  have r0 : W.heap[w.heap.size]? = some (.cells (bvs zs20).toArray 22 (0, 0)) := by rw [hW]; exact heap_alloc_new _ _
  have hg1 : w.heap.size < W.heap.size := (Array.getElem?_eq_some_iff.1 r0).1
  have A0 := hA.below hb0
  obtain ⟨n, hnn⟩ : ∃ n, n = l.length := ⟨_, rfl⟩
  rw [← hnn]
  have hn2 : n < 256 := by omega
  have hpl : s.data.toList.length = s.size := by simp
  obtain ⟨p, hp⟩ : ∃ p, p = s.data.toList := ⟨_, rfl⟩
  rw [← hp] at gi hpl ⊢
  have HW := Lib.hid hW; have R0 := Lib.hid r0; have HB0 := Lib.hid hb0; have HN := Lib.hid hnn; have HP := Lib.hid hp; have H20 := Lib.hid h20
  have HA0 := Lib.hid A0; have HPL := Lib.hid hpl
  have RowAll := Lib.hid (fun ad (h : A = some ad) i hi => sl_row (by rw [h] at A0; exact A0) h20 i hi)
  have GI := Lib.hid gi
  clear hW r0 hb0 hnn hp h20 hA A0 hn gi hpl
  have q : (s.size < 4 ∨ (4 ≤ s.size ∧ 40 < s.size)) ∨ (4 ≤ s.size ∧ s.size ≤ 40) := by omega
  rcases q with (g | ⟨g, g'⟩) | ⟨g1, g2⟩
  · have HM := Lib.hid (match_bad (l := l) (p := p) (by
      cases h : goodF p with
      | false => rfl
      | true => have := (GI.out.1 h).1; omega))
    go_enter Try.func25, Try.ntmps25
    go_upto_region 1 with fail
    simp only [zlit]
    rw [← HW.out]
    go_wp2_with (refine wpList_store_row rfl 22 (.tmp 4) (.tmp 18) rfl w.heap.size (bvs zs20).toArray rfl rfl 22 _ R0.out zi.out rfl (one_bvs _) ?_)
    refine bodyPost_ret (results_cell_tmp1 rfl _ _ w.heap.size 22 (bvs zs20).toArray (0, 0) _ rfl (setRow_heap _ _ _ _ _ _ R0.out) Try.underlying22 rfl zi.out) rfl ?_
    exact ⟨by rw [HM.out]; rfl, below_setRow HB0.out _ (Nat.le_refl _) _⟩
  · have HM := Lib.hid (match_bad (l := l) (p := p) (by
      cases h : goodF p with
      | false => rfl
      | true => have := (GI.out.1 h).2.1; omega))
    go_enter Try.func25, Try.ntmps25
    go_upto_region 1 with fail
    simp only [zlit]
    rw [← HW.out]
    go_wp2_with (refine wpList_store_row rfl 22 (.tmp 4) (.tmp 18) rfl w.heap.size (bvs zs20).toArray rfl rfl 22 _ R0.out zi.out rfl (one_bvs _) ?_)
    refine bodyPost_ret (results_cell_tmp1 rfl _ _ w.heap.size 22 (bvs zs20).toArray (0, 0) _ rfl (setRow_heap _ _ _ _ _ _ R0.out) Try.underlying22 rfl zi.out) rfl ?_
    exact ⟨by rw [HM.out]; rfl, below_setRow HB0.out _ (Nat.le_refl _) _⟩
  · go_enter Try.func25, Try.ntmps25
    go_upto_region 1 with fail
    simp only [zlit]
    rw [← HW.out]
    go_wp2_with fail
    go_loopw [6] (fun t6 wr => ∃ i : Nat, t6 = .int .i64 (i : Int) ∧ i ≤ s.size ∧ Hid (allHex (p.take i)) ∧ wr = W) (fun t6 _ => (s.size - intOf t6).toNat)
    case atStart => exact ⟨0, rfl, by omega, Lib.hid (fun c hc => by simp at hc), rfl⟩
    case round =>
      obtain ⟨i, rfl, hi, hh, rfl⟩ := hrel
      by_cases his : i < s.size
      · obtain ⟨e1, e2⟩ := str_at s i his
        obtain ⟨c, hc⟩ : ∃ c, c = s[i] := ⟨_, rfl⟩
        rw [← hc, ← HP.out] at e1 e2
        by_cases hd : dig c < 0
        · have HM := Lib.hid (match_bad (l := l) (p := p) (by
            cases h : goodF p with
            | false => rfl
            | true => have := (GI.out.1 h).2.2 c e2; omega))
          have kd := fun w => digit_any c w
          have HC := Lib.hid hc
          rw [hc] at kd hd
          clear e1 e2 hc
          go_wp2_with (first
            | (go_at_call 28; (with_reducible refine (kd _).mono ?_); rintro e w1 ⟨rfl, rfl⟩)
            | (refine wpList_store_row rfl 22 (.tmp 4) (.tmp 30) rfl w.heap.size (bvs zs20).toArray rfl rfl 22 _ R0.out zi.out rfl (one_bvs _) ?_))
          refine bodyPost_ret (results_cell_tmp1 rfl _ _ w.heap.size 22 (bvs zs20).toArray (0, 0) _ rfl (setRow_heap _ _ _ _ _ _ R0.out) Try.underlying22 rfl zi.out) rfl ?_
          exact ⟨by rw [HM.out]; rfl, below_setRow HB0.out _ (Nat.le_refl _) _⟩
        · have kd := fun w => digit_any c w
          have hh2 : allHex (p.take (i + 1)) := fun x hx => by
            rw [e1] at hx
            rcases List.mem_append.1 hx with h | h
            · exact hh.out x h
            · simp at h; subst h; omega
          have HH2 := Lib.hid hh2
          rw [hc] at kd hd
          clear e1 e2 hc hh2
          go_wp2_with (go_at_call 28; (with_reducible refine (kd _).mono ?_); rintro e w1 ⟨rfl, rfl⟩)
          go_roundw
          case rel => exact ⟨i + 1, by simp, by omega, HH2, trivial⟩
          case measure => simp only [intOf]; omega
      · obtain rfl : i = s.size := by omega
        have HG := Lib.hid (GI.out.2 ⟨g1, g2, by have := hh.out; rwa [List.take_of_length_le (by rw [HPL.out]; exact Nat.le_refl _)] at this⟩)
        clear hh
        rename World => W1
        have r7 := heap_alloc_new W1 (.cells (bvs zs20).toArray 22)
        have b7 : Below W1.heap.size W1 (W1.alloc (.cells (bvs zs20).toArray 22)) := (Below.refl _ _).alloc (Nat.le_refl _) _
        obtain ⟨W2, hW2⟩ : ∃ W2, W2 = W1.alloc (.cells (bvs zs20).toArray 22) := ⟨_, rfl⟩
        rw [← hW2] at r7 b7
        have HW2 := Lib.hid hW2
        have B7 := Lib.hid b7
        have R7 := Lib.hid r7
        clear hW2 b7 r7
        go_wp2_with fail
        simp only [zlit]
        rw [← HW2.out]
        go_loopw [8, 9] (fun t8 t9 wq => ∃ (i q : Nat) (y : List UInt8), t8 = .int .i64 (q : Int) ∧ t9 = .int .i64 (i : Int) ∧ i ≤ n ∧ q ≤ i ∧ Hid (q = (fits (l.take i) p).length) ∧ Hid (y = (fits (l.take i) p).getLastD zs20) ∧ Hid (y.length = 20) ∧ Hid (wq.heap[W1.heap.size]? = some (.cells (bvs y).toArray 22 (0, 0))) ∧ Below W1.heap.size W1 wq) (fun _ t9 _ => (n - intOf t9).toNat)
        case atStart => exact ⟨0, 0, zs20, rfl, rfl, by omega, by omega, Lib.hid (by simp [fits]), Lib.hid (by simp [fits]), Lib.hid zs20_len, R7, B7.out⟩
        case round =>
          clear R7 B7 HW2
          obtain ⟨i, q, y, rfl, rfl, hi, hqi, HQ, HY, HY20, R7, hbw⟩ := hrel
          by_cases hin : i < n
          · have hil : i < l.length := by rw [← HN.out]; exact hin
            obtain ⟨ad, rfl⟩ : ∃ ad, A = some ad := by
              cases A with
              | some ad => exact ⟨ad, rfl⟩
              | none =>
                have := sl_none HA0.out H20.out
                rw [this] at hil
                simp at hil
            have R := (RowAll.out ad rfl i hil).below hbw
            have X := get20 H20.out i hil
            have FS := Lib.hid (fits_snoc l i hil p)
            generalize l.getD i [] = x at R X FS
            have lx := load_id22 x X _ _ R
            have zx := Lib.hid (info22 x X)
            have kh := hexRef_any x wr X
            have kp : ∀ w2, Calls Try.prog 39 #[.string (bstr (hexs x)), .string s] w2 fun e w' => e = .returned (.bool (preB (hexs x) p)) ∧ w2 = w' := fun w2 => by
              have := pre39 (bstr (hexs x)) s (by rw [bstr_size, hexs_len, X]; decide) hs w2
              rwa [show (bstr (hexs x)).data.toList = hexs x by simp, ← HP.out] at this
            have hlx : (bvs y).toArray.size = (bvs x).toArray.size := by simp [X, HY20.out]
            have HLX := Lib.hid hlx
            have HX := Lib.hid X
            have RR := Lib.hid R
            clear hlx X R
            cases hq : preB (hexs x) p with
            | false =>
              rw [hq] at kp
              have FS1 := FS.out
              rw [hq, if_neg (by decide)] at FS1
              have FS1 := Lib.hid FS1
              clear hq FS
              go_wp2_with (first
                | (refine wpList_loadG 22 (.tmp 39) rfl (ad.add (i * 20)) rfl (idv x) lx rfl ?_)
                | (go_at_call 12; (with_reducible refine kh.mono ?_); rintro e w2 ⟨rfl, hb2⟩)
                | (go_at_call 39; (with_reducible refine (kp _).mono ?_); rintro e w3 ⟨rfl, rfl⟩))
              have b2 := hbw.trans (hb2.mono hbw.size)
              have R72 := (hb2.block _ (Array.getElem?_eq_some_iff.1 R7.out).1).trans R7.out
              go_roundw
              case rel => exact ⟨i + 1, q, y, rfl, by simp, by omega, by omega, Lib.hid (by rw [FS1.out]; exact HQ.out), Lib.hid (by rw [FS1.out]; exact HY.out), HY20, Lib.hid R72, b2⟩
              case measure => simp only [intOf]; omega
            | true =>
              rw [hq] at kp
              have FS1 := FS.out
              rw [hq, if_pos rfl] at FS1
              have FS1 := Lib.hid FS1
              clear hq FS
              go_upto_region 14 with (first
                | (refine wpList_loadG 22 (.tmp 39) rfl (ad.add (i * 20)) rfl (idv x) lx rfl ?_)
                | (go_at_call 12; (with_reducible refine kh.mono ?_); rintro e w2 ⟨rfl, hb2⟩)
                | (go_at_call 39; (with_reducible refine (kp _).mono ?_); rintro e w3 ⟨rfl, rfl⟩))
              have b2 := hbw.trans (hb2.mono hbw.size)
              have R72 := Lib.hid ((hb2.block _ (Array.getElem?_eq_some_iff.1 R7.out).1).trans R7.out)
              have lx2 := load_id22 x HX.out _ _ (RR.out.below hb2)
              go_wp2_with (first
                | (refine wpList_loadG 22 (.tmp 46) rfl (ad.add (i * 20)) rfl (idv x) lx2 rfl ?_)
                | (refine wpList_store_row rfl 22 (.tmp 7) (.tmp 47) rfl W1.heap.size (bvs x).toArray rfl rfl 22 (bvs y).toArray R72.out zx.out HLX.out (one_bvs _) ?_))
              go_roundw
              case rel => exact ⟨i + 1, q + 1, x, by simp, by simp, by omega, by omega, Lib.hid (by rw [FS1.out, List.length_append, ← HQ.out]; rfl), Lib.hid (by rw [FS1.out]; simp), HX, Lib.hid (setRow_heap _ _ _ _ _ _ R72.out), below_setRow b2 _ (Nat.le_refl _) _⟩
              case measure => simp only [intOf]; omega
          · obtain rfl : i = n := by omega
            have hq := HQ.out
            have hy := HY.out
            rw [HN.out, List.take_of_length_le (Nat.le_refl _)] at hq hy
            have R1 := Lib.hid ((hbw.block _ hg1).trans R0.out)
            have HQ1 := Lib.hid hq
            have HY1 := Lib.hid hy
            have bw := HB0.out.trans (hbw.mono HB0.out.size)
            have BW := Lib.hid bw
            clear hq hy hbw bw RowAll HA0
            by_cases q0 : q = 0
            · subst q0
              have HM := Lib.hid (match_none (l := l) HG.out (List.eq_nil_of_length_eq_zero HQ1.out.symm))
              go_wp2_with (refine wpList_store_row rfl 22 (.tmp 4) (.tmp 53) rfl w.heap.size (bvs zs20).toArray rfl rfl 22 _ R1.out zi.out rfl (one_bvs _) ?_)
              refine bodyPost_ret (results_cell_tmp1 rfl _ _ w.heap.size 22 (bvs zs20).toArray (0, 0) _ rfl (setRow_heap _ _ _ _ _ _ R1.out) Try.underlying22 rfl zi.out) rfl ?_
              exact ⟨by rw [HM.out]; rfl, below_setRow BW.out _ (Nat.le_refl _) _⟩
            · by_cases q1 : q = 1
              · subst q1
                obtain ⟨x, hx⟩ : ∃ x, fits l p = [x] := List.length_eq_one_iff.1 HQ1.out.symm
                have hyx : y = x := by rw [HY1.out, hx]; rfl
                subst hyx
                have HM := Lib.hid (match_one HG.out hx)
                have ly : (loadVar 22 ⟨W1.heap.size, 0, none⟩).run Try.prog wr = .ok (idv y) wr := load_id22 y HY20.out _ _ (Sl.of_block R7.out (fun j v hj => by simpa using hj))
                have zx := Lib.hid (info22 y HY20.out)
                have hlx : (bvs zs20).toArray.size = (bvs y).toArray.size := by simp [HY20.out, zs20_len]
                have HLX := Lib.hid hlx
                clear hx hlx q0
                go_wp2_with (first
                  | (refine wpList_loadG 22 (.tmp 7) rfl ⟨W1.heap.size, 0, none⟩ rfl (idv y) ly rfl ?_)
                  | (refine wpList_store_row rfl 22 (.tmp 4) (.tmp 56) rfl w.heap.size (bvs y).toArray rfl rfl 22 _ R1.out zx.out HLX.out (one_bvs _) ?_))
                refine bodyPost_ret (results_cell_tmp1 rfl _ _ w.heap.size 22 (bvs y).toArray (0, 0) _ rfl (setRow_heap _ _ _ _ _ _ R1.out) Try.underlying22 rfl zx.out) rfl ?_
                exact ⟨by rw [HM.out]; rfl, below_setRow BW.out _ (Nat.le_refl _) _⟩
              · have HM := Lib.hid (match_many (l := l) HG.out (by rw [← HQ1.out]; omega))
                have e0 : ((q : Int) == 0) = false := beq_eq_false_iff_ne.2 (by omega)
                have e1 : ((q : Int) == 1) = false := beq_eq_false_iff_ne.2 (by omega)
                go_wp2_with (refine wpList_store_row rfl 22 (.tmp 4) (.tmp 57) rfl w.heap.size (bvs zs20).toArray rfl rfl 22 _ R1.out zi.out rfl (one_bvs _) ?_)
                refine bodyPost_ret (results_cell_tmp1 rfl _ _ w.heap.size 22 (bvs zs20).toArray (0, 0) _ rfl (setRow_heap _ _ _ _ _ _ R1.out) Try.underlying22 rfl zi.out) rfl ?_
                exact ⟨by rw [HM.out]; rfl, below_setRow BW.out _ (Nat.le_refl _) _⟩
end
end Go.Proofs.Ytjiiploleinobaa
