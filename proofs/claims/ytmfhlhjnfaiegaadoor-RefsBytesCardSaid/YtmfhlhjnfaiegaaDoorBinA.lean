/- Clone and Clip of bytes; package bin's numbers as bytes, the highest first. Conditions: at most 2^40 bytes, numbers not below 0. -/
import Derived.Test.YtmfhlhjnfaiegaaDoorMemD
import Derived.Test.YtmfhlhjnfaiegaaDoorSeat
import Derived.Test.YtmfhlhjnfaiegaaDoorShaP
namespace Go.Proofs.YtmfhlhjnfaiegaaDoor
open Go.RowKit
set_option maxRecDepth 100000
set_option maxHeartbeats 4000000
set_option linter.unusedVariables false
theorem Tryd.size5 (w : World) : ∃ s, (sizeOf 5).run Tryd.prog w = .ok s w := ⟨1, by kernel_rfl⟩
theorem clipB (A : Option Addr) (n c : Nat) (h : n ≤ c) (w : World) : Calls Tryd.prog 87 #[.slice A n c] w fun e w' => e = .returned (.slice A n n) ∧ w = w' := by
  have hs := slice_clip Tryd.underlying23 Tryd.size5 A n c h
  go_enter Tryd.func87, Tryd.ntmps87
  go_wp2
  go_ret
  exact ⟨rfl, rfl⟩
theorem cloneB (A : Option Addr) (c : Nat) (l : List UInt8) (w : World) (hl : l.length ≤ 1099511627776) (hA : Bs w A l) :
    Calls Tryd.prog 86 #[.slice A l.length c] w (Out 5 l w) := by
  cases A with
  | none =>
    have : l = [] := by
      cases l with
      | nil => rfl
      | cons u l => obtain ⟨ad', e', _⟩ := hA 0 _ rfl; cases e'
    subst this
    have hnil := Lib.run_eql_slice_nil (P := Tryd.prog) (t := 23) (e := 5) (a := none) (n := 0) (c := c) (n' := 0) (c' := 0) (h := Tryd.underlying23)
    go_enter Tryd.func86, Tryd.ntmps86
    go_wp2
    go_ret
    exact ⟨_, rfl, Win.nil _ _ _ _, Below.refl _ _⟩
  | some ad =>
    have hnil := Lib.run_eql_slice_nil (P := Tryd.prog) (t := 23) (e := 5) (a := some ad) (n := l.length) (c := c) (n' := 0) (c' := 0) (h := Tryd.underlying23)
    go_enter Tryd.func86, Tryd.ntmps86
    go_wp2_with (at_builtin; refine appW34 rfl (.tmp 5) (.tmp 6) rfl w.heap.size _ [] rfl (WinB.empty (Nat.le_refl _)) (some ad) c l rfl (hA.below ((Below.refl _ _).alloc (Nat.le_refl _) _)) (by simp; omega) (by simp) ?_; intro v2 w2 hown2 hk2 _)
    go_ret
    exact ⟨_, rfl, by simpa using hown2, ((Below.refl _ _).alloc (Nat.le_refl _) _).trans (hk2.toBelow (by simp) (fun k hk e => by injection e with e; exact absurd (show w.heap.size = k from e) (by omega)))⟩
/-- so many bytes of a number, the highest first -/
def beN : Nat → Nat → List UInt8
  | 0, _ => []
  | j + 1, v => UInt8.ofNat (v / 2 ^ (8 * j)) :: beN j v
theorem beN_len (v : Nat) : ∀ j, (beN j v).length = j
  | 0 => rfl
  | j + 1 => by rw [beN, List.length_cons, beN_len v j]
theorem beN_4 (v : Nat) : beN 4 v = b4 v := by simp [beN, b4]
theorem beN_8 (v : Nat) : beN 8 v = be8 v := by simp [beN, be8]
theorem put_any (A : Option Addr) (c : Nat) (l : List UInt8) (v k : Nat) (hv : v < 9223372036854775808) (hk : k ≤ 8) (w : World) (hl : l.length ≤ 1099511627776) (hA : Bs w A l) :
    Calls Tryd.prog 83 #[.slice A l.length c, .int .i64 (v : Int), .int .i64 ((8 * k : Nat) : Int)] w (Out 5 (l ++ beN k v) w) := by
  go_enter Tryd.func83, Tryd.ntmps83
  go_wp2_with (go_at_call 86; (with_reducible refine (cloneB A c l _ hl hA).mono ?_); rintro e w1 ⟨v1, rfl, hw1, hb1⟩)
  go_loopw [2, 7] (fun t2 t7 wr => ∃ (b j : Nat) (acc : List UInt8), t2 = .int .i64 (b : Int) ∧ Hid (b = 8 * j) ∧ b ≤ 64 ∧ Hid (acc ++ beN j v = l ++ beN k v) ∧ WinB wr w.heap.size 5 t7 acc ∧ Below w.heap.size w wr) (fun t2 _ _ => (intOf t2).toNat)
  case atStart => exact ⟨8 * k, k, l, rfl, Lib.hid rfl, by omega, Lib.hid rfl, hw1, hb1⟩
  case round =>
    clear hw1 hb1
    obtain ⟨b, j, acc, rfl, HB, hb64, HA, hw, hb⟩ := hrel
    by_cases h0 : 0 < b
    · obtain ⟨i, rfl⟩ : ∃ i, j = i + 1 := ⟨j - 1, by have := HB.out; omega⟩
      obtain ⟨d, hd⟩ : ∃ d, d = 8 * i := ⟨_, rfl⟩
      have hs : IntKind.i64.wrap ((b : Int) - 8) = (d : Int) := by have := HB.out; rw [IntWalk.i64_in _ (by omega)]; omega
      have hs2 : (b : Int) - 8 = (d : Int) := by have := HB.out; omega
      have hd0 : d ≤ 56 := by have := HB.out; omega
      have HD := Lib.hid hd
      clear hd
      have hy : ((v : Int) / 2 ^ d % 256) = ((UInt8.ofNat (v / 2 ^ d)).toNat : Int) := by
        simp
      obtain ⟨y, hyy⟩ : ∃ y, y = UInt8.ofNat (v / 2 ^ d) := ⟨_, rfl⟩
      rw [← hyy] at hy
      have HY := Lib.hid hy; have HYY := Lib.hid hyy
      have hacc := congrArg List.length HA.out
      rw [List.length_append, List.length_append, beN_len, beN_len] at hacc
      clear hy hyy
      go_wp2_with (at_builtin; refine appW34 rfl (.tmp 14) (.tmp 19) rfl w.heap.size _ acc rfl (hw.below ((Below.refl _ _).alloc (Nat.le_refl _) _)) (some ⟨wr.heap.size, 0, none⟩) 1 [y] rfl (Sl.of_block (heap_alloc_new _ _) (one_byte HY.out)) (by simp; omega) (Nat.le_trans hb.size (by simp)) ?_; intro v2 w2 hown2 hk2 _)
      have hb2 : Below w.heap.size w w2 := (hb.alloc hb.size _).trans (hk2.toBelow (Nat.le_trans hb.size (by simp)) (fun k hk e => absurd (hw.block k e).1 (by omega)))
      go_roundw
      case rel => exact ⟨d, i, acc ++ [y], rfl, HD, by omega, Lib.hid (by rw [← HA.out, beN, HYY.out, HD.out, List.append_assoc]; rfl), hown2, hb2⟩
      case measure => have := HB.out; have := HD.out; simp only [intOf]; omega
    · obtain rfl : b = 0 := by omega
      have hj : j = 0 := by have := HB.out; omega
      have hacc := HA.out
      rw [hj, beN, List.append_nil] at hacc
      obtain ⟨A2, c2, rfl, hc2, _, _⟩ := hw.reads
      have HACC := Lib.hid hacc
      clear hacc hj HA
      go_wp2_with (go_at_call 87; (with_reducible refine (clipB A2 _ c2 hc2 _).mono ?_); rintro e w3 ⟨rfl, rfl⟩)
      go_ret
      exact ⟨_, rfl, by rw [← HACC.out]; exact WinB.clip hw rfl, hb⟩
theorem put32_any (A : Option Addr) (c : Nat) (l : List UInt8) (v : Nat) (hv : v < 9223372036854775808) (w : World) (hl : l.length ≤ 1099511627776) (hA : Bs w A l) :
    Calls Tryd.prog 69 #[.slice A l.length c, .int .i64 (v : Int)] w (Out 5 (l ++ b4 v) w) := by
  have k : Calls Tryd.prog 83 #[.slice A l.length c, .int .i64 (v : Int), .int .i64 32] w (Out 5 (l ++ beN 4 v) w) := put_any A c l v 4 hv (by omega) w hl hA
  rw [beN_4] at k
  go_enter Tryd.func69, Tryd.ntmps69
  go_wp2_with (go_at_call 83; (with_reducible refine k.mono ?_); rintro e w1 ⟨v1, rfl, hw1, hb1⟩)
  go_ret
  exact ⟨_, rfl, hw1, hb1⟩
theorem put64_any (A : Option Addr) (c : Nat) (l : List UInt8) (v : Nat) (hv : v < 9223372036854775808) (w : World) (hl : l.length ≤ 1099511627776) (hA : Bs w A l) :
    Calls Tryd.prog 68 #[.slice A l.length c, .int .i64 (v : Int)] w (Out 5 (l ++ be8 v) w) := by
  have k : Calls Tryd.prog 83 #[.slice A l.length c, .int .i64 (v : Int), .int .i64 64] w (Out 5 (l ++ beN 8 v) w) := put_any A c l v 8 hv (by omega) w hl hA
  rw [beN_8] at k
  go_enter Tryd.func68, Tryd.ntmps68
  go_wp2_with (go_at_call 83; (with_reducible refine k.mono ?_); rintro e w1 ⟨v1, rfl, hw1, hb1⟩)
  go_ret
  exact ⟨_, rfl, hw1, hb1⟩
end Go.Proofs.YtmfhlhjnfaiegaaDoor
