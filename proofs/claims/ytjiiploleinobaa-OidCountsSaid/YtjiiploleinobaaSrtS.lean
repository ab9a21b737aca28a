/- oid.Sort, out of pdqsort's contract. Conditions: fewer than 256 names, each of twenty bytes. -/
import Derived.Test.YtjiiploleinobaaSrtR
namespace Go.Proofs.Ytjiiploleinobaa
open Go.RowKit
open Go.Sort (PermIn SortedIn ltStr swo_ltStr)
set_option maxRecDepth 100000
set_option maxHeartbeats 4000000
set_option linter.unusedVariables false
theorem sorted_list {l : List (List UInt8)} {d : Array (List UInt8)} (hp : PermIn 0 l.length l.toArray d) (hs : SortedIn ltStr 0 l.length d) :
    d.size = l.length ∧ Ris (cmpt d.toList l.length) ∧ ∀ x, x ∈ cmpt d.toList l.length ↔ x ∈ l := by
  obtain ⟨h1, _, h3⟩ := hp
  have hsz : d.size = l.length := by simpa using h1
  have e1 : d.extract 0 l.length = d := by rw [← hsz]; exact Array.extract_size
  have e2 : l.toArray.extract 0 l.length = l.toArray := by
    have : l.length = l.toArray.size := by simp
    rw [this]; exact Array.extract_size
  rw [e1, e2] at h3
  have hlen : d.toList.length = l.length := by simpa using hsz
  refine ⟨hsz, (cmpt_ris d.toList (fun i j hij hj => ?_) l.length (by omega)).1, fun x => ?_⟩
  · have := hs i j (Nat.zero_le _) hij (by omega)
    rw [← td, ← td] at this
    simpa [ltStr] using this
  · rw [cmpt_mem d.toList l.length (by omega) x, List.take_of_length_le (by omega)]
    simpa using h3.mem_iff
/-- what oid.Sort hands back -/
structure Sorted (w w' : World) (l : List (List UInt8)) (A : Option Addr) (L : List (List UInt8)) : Prop where
  ris : Ris L
  mem : ∀ x, x ∈ L ↔ x ∈ l
  sl : Sl w' A (idc L)
  below : Below w.heap.size w w'
  len : L.length ≤ l.length
theorem sort14 (hPQ : ∀ g n cap, n ≤ cap → n < 256 → PdqOK (.slice (some ⟨g, 0, none⟩) n cap) n g) (l : List (List UInt8)) (h20 : All20 l) (hn : l.length < 256) (A : Option Addr) (c : Nat) (w : World) (hA : Sl w A (idc l)) (h0 : A = none → c = 0) :
    Calls Try.prog 14 #[.slice A l.length c] w fun e w' => ∃ A' L, e = .returned (.slice A' L.length L.length) ∧ Sorted w w' l A' L := by
  by_cases h2 : l.length < 2
  · have hris : Ris l := by
      match l, h2 with
      | [], _ => exact List.Pairwise.nil
      | [x], _ => exact List.pairwise_singleton _ _
      | x :: y :: t, h => exact absurd h (by simp only [List.length_cons]; omega)
    cases A with
    | none =>
      have hl : l = [] := by
        cases l with
        | nil => rfl
        | cons x t =>
          have hlen := idc_len _ h20
          have : 0 < (idc (x :: t)).length := by rw [hlen]; simp
          obtain ⟨ad, e, _⟩ := hA 0 _ (List.getElem?_eq_getElem this)
          cases e
      subst hl
      have hc := h0 rfl
      subst hc
      have k1 := clone_nil w
      have k2 := sort_tiny none 0 0 (by omega) w
      have k3 := compact_small none 0 0 (by omega) w
      have k4 := clip32 none 0 0 (by omega) w
      go_enter Try.func14, Try.ntmps14
      go_wp2_with (first
        | (go_at_call 30; (with_reducible refine k1.mono ?_); rintro e w1 ⟨rfl, rfl⟩)
        | (go_at_call 31; (with_reducible refine k2.mono ?_); rintro e w1 ⟨rfl, rfl⟩)
        | (go_at_call 33; (with_reducible refine k3.mono ?_); rintro e w1 ⟨rfl, rfl⟩)
        | (go_at_call 32; (with_reducible refine k4.mono ?_); rintro e w1 ⟨rfl, rfl⟩))
      go_ret
      exact ⟨none, [], rfl, List.Pairwise.nil, fun x => Iff.rfl, Sl.nil _ _, Below.refl _ _, Nat.le_refl _⟩
    | some ad =>
      have k1 := clone_any l.length hn ad c (idc l) w (idc_len l h20) (idc_one l) hA
      have HR := Lib.hid hris
      obtain ⟨n, hnn⟩ : ∃ n, n = l.length := ⟨_, rfl⟩
      rw [← hnn] at k1 h2 ⊢
      have HN := Lib.hid hnn
      have hle1 : n ≤ 1 := by omega
      clear hA h0 hris hn hnn
      go_enter Try.func14, Try.ntmps14
      go_wp2_with (first
        | (go_at_call 30; (with_reducible refine k1.mono ?_); rintro e w1 ⟨v, rfl, hown, hb⟩
           obtain ⟨A1, c1, rfl, hc1, hs1⟩ : ∃ A1 c1, v = .slice A1 n c1 ∧ n ≤ c1 ∧ Sl w1 A1 (idc l) := by
             obtain ⟨A1, c1, hv, hc, _, hs⟩ := (Win.ofOwns hown).reads
             exact ⟨A1, c1, hv, hc, hs⟩
           have k2 := sort_tiny A1 n c1 hle1 w1
           have k3 := compact_small A1 n c1 h2 w1
           have k4 := clip32 A1 n c1 hc1 w1)
        | (go_at_call 31; (with_reducible refine k2.mono ?_); rintro e w1 ⟨rfl, rfl⟩)
        | (go_at_call 33; (with_reducible refine k3.mono ?_); rintro e w1 ⟨rfl, rfl⟩)
        | (go_at_call 32; (with_reducible refine k4.mono ?_); rintro e w1 ⟨rfl, rfl⟩))
      go_ret
      exact ⟨A1, l, by rw [← HN.out]; rfl, HR.out, fun x => Iff.rfl, hs1, hb, Nat.le_refl _⟩
  · obtain ⟨ad, rfl⟩ : ∃ ad, A = some ad := by
      cases A with
      | some ad => exact ⟨ad, rfl⟩
      | none =>
        have hlen := idc_len _ h20
        have : 0 < (idc l).length := by rw [hlen]; omega
        obtain ⟨ad, e, _⟩ := hA 0 _ (List.getElem?_eq_getElem this)
        cases e
    have k1 := clone_any l.length hn ad c (idc l) w (idc_len l h20) (idc_one l) hA
    obtain ⟨n, hnn⟩ : ∃ n, n = l.length := ⟨_, rfl⟩
    rw [← hnn] at k1 h2 hn ⊢
    have HN := Lib.hid hnn
    have H20 := Lib.hid h20
    have hn2 : 2 ≤ n := by omega
    have PQ := Lib.hid hPQ
    clear hA h0 hnn hPQ h20
    go_enter Try.func14, Try.ntmps14
    go_wp2_with (first
      | (go_at_call 30; (with_reducible refine k1.mono ?_); rintro e w1 ⟨v, rfl, hown, hb⟩
         rw [HN.out] at hown
         obtain ⟨g, cap, rfl, hBg, hcap, hid⟩ := ids_of_own H20.out hown (by have := HN.out; omega)
         rw [← HN.out] at hcap ⊢
         have k2 := sort_ids g n cap hcap hn (PQ.out g n cap hcap hn) l.toArray w1 hid (by rw [HN.out]; simp)
         clear hown hid)
      | (go_at_call 31; (with_reducible refine k2.mono ?_); rintro e w2 ⟨rfl, d', hst, hpm, hso⟩
         have k3 := compact_any g n cap hcap hn hn2 d' w2 hst.holds hst.size
         rw [HN.out] at hpm hso
         have SL := Lib.hid (sorted_list hpm hso)
         have HS := Lib.hid hst
         clear hpm hso hst)
      | (go_at_call 33; (with_reducible refine k3.mono ?_); rintro e w3 ⟨rfl, hid3, hk3⟩
         have hcl := cmpt_len d'.toList n
         obtain ⟨L, hL⟩ : ∃ L, L = cmpt d'.toList n := ⟨_, rfl⟩
         rw [← hL] at hid3 hcl ⊢
         obtain ⟨m, hm⟩ : ∃ m, m = L.length := ⟨_, rfl⟩
         rw [← hm] at hcl ⊢
         have k4 := clip32 (some ⟨g, 0, none⟩) m cap (by omega) w3
         have HLL := Lib.hid hL
         have HMM := Lib.hid hm
         have HI3 := Lib.hid hid3
         clear hL hm hid3)
      | (go_at_call 32; (with_reducible refine k4.mono ?_); rintro e w4 ⟨rfl, rfl⟩))
    go_ret
    have hS := SL.out
    rw [← HN.out, ← HLL.out] at hS
    have hL20 : All20 L := fun x hx => H20.out x ((hS.2.2 x).1 hx)
    refine ⟨some ⟨g, 0, none⟩, L, by rw [← HMM.out]; rfl, hS.2.1, hS.2.2, ids_sl HI3.out hL20, ?_, by rw [← HMM.out, ← HN.out]; exact hcl⟩
    have hkk := Kp.trans HS.out.kp hk3
    exact hb.trans (hkk.toBelow hb.size (fun k hk e => by omega))
end Go.Proofs.Ytjiiploleinobaa
