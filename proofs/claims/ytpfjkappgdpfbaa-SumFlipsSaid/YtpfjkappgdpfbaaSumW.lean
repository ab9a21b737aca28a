/- Each function of package sum and of its reference computes the function of SumP. Condition: a list of bytes has at most 140737488351232 of them. -/
import Derived.Test.YtpfjkappgdpfbaaProg
import Derived.Test.YtpfjkappgdpfbaaSeat
import Derived.Test.YtpfjkappgdpfbaaSumP
import Derived.Laws.CopyOwn
namespace Go.Proofs.Ytpfjkappgdpfbaa
open Go.RowKit
set_option maxRecDepth 100000
set_option maxHeartbeats 400000

theorem adler_end {s : Nat × Nat} (h : s.1 < 65536 ∧ s.2 < 65536) : bits .or .u32 ((s.2 : Int) * 65536) (s.1 : Int) = (adlOf s : Nat) := by
  have := bits_or_nat .u32 32 (by decide) (fun n h0 h1 => by rw [IntKind.wrap_u32]; omega) (a := s.2 * 65536) (b := s.1) (by omega) (by omega)
  rw [or_join (i := 16) (by omega)] at this
  rw [show (s.2 : Int) * 65536 = ((s.2 * 65536 : Nat) : Int) by omega, this]; rfl

theorem adlerMore_any (a : Nat) (ha : a < 4294967296) (A : Option Addr) (n : Nat) (l : List UInt8) (w : World) (hl : l.length ≤ 140737488351232) (hA : Bs w A l) :
    Calls Try.prog 21 #[.int .u32 a, .slice A l.length n] w fun e w' => e = .returned (.int .u32 (adlMore a l : Nat)) ∧ w = w' := by
  have e1 := u32_and16 ha
  go_enter Try.func21, Try.ntmps21
  go_wp2
  go_loop [5, 6, 15] (fun x y i => ∃ k : Nat, k ≤ l.length ∧ i = .int .i64 k ∧ x = .int .u32 (((l.take k).foldl adlB (a % 65536, a / 65536)).1 : Nat) ∧ y = .int .u32 (((l.take k).foldl adlB (a % 65536, a / 65536)).2 : Nat)) (fun _ _ i => l.length - (intOf i).toNat)
  case atStart => exact ⟨0, by omega, rfl, rfl, int_eq (by simp)⟩
  case round =>
    obtain ⟨k, hk, rfl, rfl, rfl⟩ := hrel
    clear e1
    have hs := adls_lt (l.take k) (s := (a % 65536, a / 65536)) (by constructor <;> simp <;> omega)
    obtain ⟨s, hse⟩ : ∃ s, s = (l.take k).foldl adlB (a % 65536, a / 65536) := ⟨_, rfl⟩
    rw [← hse] at hs ⊢
    have HSE := Lib.hid hse
    by_cases hlt : k < l.length
    · obtain ⟨ad, rfl, hc⟩ := hA.at hlt
      have hf := foldl_take adlB (a % 65536, a / 65536) l k hlt
      rw [← hse] at hf
      have HF := Lib.hid hf; clear hf hse
      have hcl := l[k].toNat_lt
      go_wp2
      go_round
      case rel => exact ⟨k + 1, by omega, by go_num, int_eq (by rw [HF.out]; simp only [adlB]; omega), int_eq (by rw [HF.out]; simp only [adlB]; omega)⟩
      case measure => simp [intOf]; omega
    · obtain rfl : k = l.length := by omega
      clear hse
      have e3 := adler_end hs
      go_wp2
      go_ret
      exact ⟨ret_int (by rw [HSE.out, List.take_length]; rfl), rfl⟩

theorem adlerMoreR_any (a : Nat) (ha : a < 4294967296) (A : Option Addr) (n : Nat) (l : List UInt8) (w : World) (hl : l.length ≤ 140737488351232) (hA : Bs w A l) :
    Calls Try.prog 37 #[.int .u32 a, .slice A l.length n] w fun e w' => e = .returned (.int .u32 (adlMore a l : Nat)) ∧ w = w' := by
  have e1 := u32_and16 ha
  go_enter Try.func37, Try.ntmps37
  go_wp2
  go_loop [5, 6, 7] (fun x y i => ∃ k : Nat, k ≤ l.length ∧ i = .int .i64 k ∧ x = .int .u32 (((l.take k).foldl adlB (a % 65536, a / 65536)).1 : Nat) ∧ y = .int .u32 (((l.take k).foldl adlB (a % 65536, a / 65536)).2 : Nat)) (fun _ _ i => l.length - (intOf i).toNat)
  case atStart => exact ⟨0, by omega, rfl, rfl, int_eq (by simp)⟩
  case round =>
    obtain ⟨k, hk, rfl, rfl, rfl⟩ := hrel
    clear e1
    have hs := adls_lt (l.take k) (s := (a % 65536, a / 65536)) (by constructor <;> simp <;> omega)
    obtain ⟨s, hse⟩ : ∃ s, s = (l.take k).foldl adlB (a % 65536, a / 65536) := ⟨_, rfl⟩
    rw [← hse] at hs ⊢
    have HSE := Lib.hid hse
    by_cases hlt : k < l.length
    · obtain ⟨ad, rfl, hc⟩ := hA.at hlt
      have hf := foldl_take adlB (a % 65536, a / 65536) l k hlt
      rw [← hse] at hf
      have HF := Lib.hid hf; clear hf hse
      have hcl := l[k].toNat_lt
      go_wp2
      go_round
      case rel => exact ⟨k + 1, by omega, by go_num, int_eq (by rw [HF.out]; simp only [adlB]; omega), int_eq (by rw [HF.out]; simp only [adlB]; omega)⟩
      case measure => simp [intOf]; omega
    · obtain rfl : k = l.length := by omega
      clear hse
      have e3 := adler_end hs
      go_wp2
      go_ret
      exact ⟨ret_int (by rw [HSE.out, List.take_length]; rfl), rfl⟩

theorem S_walk1 {v : Nat} (hv : v < 4294967296) (h : v % 2 = 1) : bits .xor .u32 ((v : Int) / 2) 3988292384 = (S v : Nat) := by
  have := bits_xor_u32 (a := v / 2) (b := poly) (by omega) (by decide)
  rw [S, if_pos h, ← this]; rfl
theorem S_walk {v : Nat} (hv : v < 4294967296) : bits .xor .u32 ((v : Int) / 2) (bits .and .u32 (-bits .and .u32 v 1 % 4294967296) 3988292384) = (S v : Nat) := by
  rw [u32_and1 hv]
  rcases Nat.mod_two_eq_zero_or_one v with h | h
  · rw [h, show bits .and .u32 (-((0 : Nat) : Int) % 4294967296) 3988292384 = ((0 : Nat) : Int) by decide]
    have := bits_xor_u32 (a := v / 2) (b := 0) (by omega) (by decide)
    rw [S, if_neg (by omega), ← this]; rfl
  · rw [h, show bits .and .u32 (-((1 : Nat) : Int) % 4294967296) 3988292384 = 3988292384 by decide]
    exact S_walk1 hv h
theorem S_walk0 {v : Nat} (h : ¬ v % 2 = 1) : (v : Int) / 2 = (S v : Nat) := by
  rw [S, if_neg h]; simp
def tabL (i : Nat) : List Value := (List.range 16).map (fun j => Value.int .u32 ((if j < i then T j else 0 : Nat) : Int))
def tabArr (i : Nat) : Array Value := (tabL i).toArray
theorem tabArr_size (i : Nat) : (tabArr i).size = 16 := by simp [tabArr, tabL]
theorem tabArr_at (i j : Nat) (h : j < 16) : (tabArr i)[j]? = some (.int .u32 ((if j < i then T j else 0 : Nat) : Int)) := by simp [tabArr, tabL, h]
theorem tabArr_set (k : Nat) (h : k < 16) : (tabArr k).setIfInBounds k (.int .u32 (T k : Nat)) = tabArr (k + 1) := by
  apply Array.ext_getElem?
  intro j
  rw [Array.getElem?_setIfInBounds, tabArr_size]
  by_cases hj : j < 16
  · rw [tabArr_at _ _ hj, tabArr_at _ _ hj]
    by_cases e : k = j
    · subst e; simp [h]
    · rw [if_neg e]
      by_cases h2 : j < k
      · rw [if_pos h2, if_pos (by omega)]
      · rw [if_neg h2, if_neg (by omega)]
  · have hk : k ≠ j := by omega
    rw [if_neg hk, Array.getElem?_eq_none (by rw [tabArr_size]; omega), Array.getElem?_eq_none (by rw [tabArr_size]; omega)]
theorem tabArr_zero : tabArr 0 = #[.int .u32 0, .int .u32 0, .int .u32 0, .int .u32 0, .int .u32 0, .int .u32 0, .int .u32 0, .int .u32 0, .int .u32 0, .int .u32 0, .int .u32 0, .int .u32 0, .int .u32 0, .int .u32 0, .int .u32 0, .int .u32 0] := rfl
theorem table_any (w : World) :
    Calls Try.prog 39 #[] w fun e w' => e = .returned (.agg (tabArr 16)) ∧ Below w.heap.size w w' := by
  go_enter Try.func39, Try.ntmps39
  go_wp2
  rw [← tabArr_zero]
  go_loopw [4] (fun i wr => ∃ k : Nat, k ≤ 16 ∧ i = .int .i64 k ∧ wr.heap[w.heap.size + 1]? = some (.cells (tabArr k) 67 (0, 0)) ∧ wr.heap[w.heap.size]? = some (.cells (tabArr 0) 67 (0, 0)) ∧ Below w.heap.size w wr) (fun i _ => 16 - (intOf i).toNat)
  case atStart => exact ⟨0, by omega, rfl, heap_alloc2_new _ _ _, heap_alloc2_old _ _ _, ((Below.refl _ _).alloc (Nat.le_refl _) _).alloc (by simp) _⟩
  case round =>
    obtain ⟨k, hk, rfl, h1, h0, hb⟩ := hrel
    have H1 := Lib.hid h1; have H0 := Lib.hid h0; clear h1 h0
    by_cases hlt : k < 16
    · have hc : wr.cell? ⟨w.heap.size + 1, k, none⟩ = some (.int .u32 0) := by
        rw [cell_of_row _ _ _ _ _ _ H1.out, tabArr_at _ _ hlt, if_neg (by omega)]; rfl
      have hf : wr.frozen? ⟨w.heap.size + 1, k, none⟩ = false := frozen_of_row _ _ _ _ _ H1.out
      go_wp2
      go_loop [3, 9] (fun v j => ∃ n : Nat, n ≤ 4 ∧ j = .int .i64 n ∧ v = .int .u32 (iterS n k : Nat)) (fun _ j => 4 - (intOf j).toNat)
      case atStart => exact ⟨0, by omega, rfl, rfl⟩
      case round =>
        obtain ⟨n, hn, rfl, rfl⟩ := hrel
        have hb := iterS_lt (n := n) (v := k) (by omega)
        by_cases h4 : n < 4
        · have hS := S_walk hb
          rw [← iterS_succ] at hS
          go_wp2
          go_round
          case rel => exact ⟨n + 1, by omega, by go_num, rfl⟩
          case measure => simp [intOf]; omega
        · obtain rfl : n = 4 := by omega
          go_wp2
          go_roundw
          case rel =>
            refine ⟨k + 1, by omega, by go_num, ?_, ?_, Below.setCell ‹_› (by simp) _⟩
            · rw [heap_setCell_same _ _ _ _ _ _ H1.out]
              exact congrArg (fun x => some (Obj.cells x 67 (0, 0))) (tabArr_set k hlt)
            · rw [heap_setCell_other _ _ _ _ (by simp)]; exact H0.out
          case measure => simp [intOf]; omega
    · obtain rfl : k = 16 := by omega
      have hall : (tabArr 16).all (·.oneCell') = true := by simp [tabArr, tabL, Value.oneCell']
      have sz : (Try.prog.info? 67).map (·.size) = some (tabArr 16).size := by rw [tabArr_size]; kernel_rfl
      go_wp2_with (first
        | (with_reducible refine wpList_load_row rfl 67 _ rfl _ rfl 67 (tabArr 16) (0, 0) _ H1.out Try.underlying67 rfl sz ?_)
        | (with_reducible refine wpList_store_row rfl 67 _ _ rfl _ (tabArr 16) rfl rfl 67 (tabArr 0) H0.out sz (by rw [tabArr_size, tabArr_size]) hall ?_))
      exact bodyPost_ret (results_cell_row rfl _ _ _ 67 (tabArr 16) (0, 0) _ rfl (setRow_heap _ _ _ _ _ _ H0.out) Try.underlying67 rfl sz) rfl ⟨rfl, below_setRow hb (Nat.le_refl _) _⟩

theorem half_walk {v : Nat} (hv : v < 4294967296) : bits .xor .u32 ((v : Int) / 16) (T (v % 16) : Nat) = (half v : Nat) := by
  have := bits_xor_u32 (a := v / 16) (b := T (v % 16)) (by omega) (T_lt (by omega))
  rw [half, ← this]; rfl
theorem run_any (c : Nat) (hc32 : c < 4294967296) (A : Option Addr) (n : Nat) (l : List UInt8) (w : World) (hl : l.length ≤ 140737488351232) (hA : Bs w A l) :
    Calls Try.prog 38 #[.agg (tabArr 16), .int .u32 c, .slice A l.length n] w fun e w' => e = .returned (.int .u32 (crcMore c l : Nat)) ∧ Below w.heap.size w w' := by
  have hb : Below w.heap.size w (w.alloc (.cells (tabArr 16) 67)) := (Below.refl _ _).alloc (Nat.le_refl _) _
  have h2 : Bs (w.alloc (.cells (tabArr 16) 67)) A l := hA.below hb
  have ht : ∀ i, i < 16 → (w.alloc (.cells (tabArr 16) 67)).cell? ⟨w.heap.size, i, none⟩ = some (.int .u32 (T i : Nat)) := fun i hi => by
    rw [World.cell?_alloc_at _ _ _ _ rfl, tabArr_at _ _ hi, if_pos hi]
  have hn := not_walk hc32
  clear hA
  go_enter Try.func38, Try.ntmps38
  go_wp2
  go_loop [7, 14] (fun x i => ∃ k : Nat, k ≤ l.length ∧ i = .int .i64 k ∧ x = .int .u32 ((l.take k).foldl crcB (not32 c) : Nat)) (fun _ i => l.length - (intOf i).toNat)
  case atStart => exact ⟨0, by omega, rfl, rfl⟩
  case round =>
    obtain ⟨k, hk, rfl, rfl⟩ := hrel
    clear hn
    have hv := crcs_lt (not32_lt c) (l.take k)
    obtain ⟨v, hve⟩ : ∃ v, v = (l.take k).foldl crcB (not32 c) := ⟨_, rfl⟩
    rw [← hve] at hv ⊢
    have HVE := Lib.hid hve
    by_cases hlt : k < l.length
    · obtain ⟨ad, rfl, hc⟩ := h2.at hlt
      have hf := foldl_take crcB (not32 c) l k hlt
      rw [← hve] at hf
      have HF := Lib.hid hf; clear hf hve
      have hcl := l[k].toNat_lt
      have x1 := xc_lt hv l[k]
      have e1 := bits_xor_u32 hv (show l[k].toNat < 4294967296 by omega)
      obtain ⟨v1, hv1⟩ : ∃ v1, v1 = v ^^^ l[k].toNat := ⟨_, rfl⟩
      rw [← hv1] at e1 x1
      have x2 := half_lt x1
      have e2 := half_walk x1
      have e3 := half_walk x2
      have m1 := u32_and15 x1
      have m2 := u32_and15 x2
      have t1 := ht (v1 % 16) (by omega)
      have t2 := ht (half v1 % 16) (by omega)
      have b1 : v1 % 16 < 16 := by omega
      have b2 : half v1 % 16 < 16 := by omega
      have HV1 := Lib.hid hv1; clear hv1
      go_wp2
      go_round
      case rel => exact ⟨k + 1, by omega, by go_num, by rw [HF.out, crcB, ← HV1.out]⟩
      case measure => simp [intOf]; omega
    · obtain rfl : k = l.length := by omega
      clear hve
      have e3 := not_walk hv
      go_wp2
      go_ret
      exact ⟨ret_int (by rw [HVE.out, List.take_length]; rfl), hb⟩

theorem crcMore_any (c : Nat) (hc32 : c < 4294967296) (A : Option Addr) (n : Nat) (l : List UInt8) (w : World) (hl : l.length ≤ 140737488351232) (hA : Bs w A l) :
    Calls Try.prog 20 #[.int .u32 c, .slice A l.length n] w fun e w' => e = .returned (.int .u32 (crcMore c l : Nat)) ∧ Below w.heap.size w w' := by
  go_enter Try.func20, Try.ntmps20
  go_wp2_with (first
    | (go_at_call 39; refine (table_any _).mono ?_; rintro e w1 ⟨rfl, hb1⟩)
    | (go_at_call 38; refine (run_any c hc32 A n l _ hl (hA.below ‹_›)).mono ?_; rintro e w2 ⟨rfl, hb2⟩))
  go_ret
  exact ⟨rfl, hb1.trans (hb2.mono hb1.size)⟩
theorem crc_any (A : Option Addr) (n : Nat) (l : List UInt8) (w : World) (hl : l.length ≤ 140737488351232) (hA : Bs w A l) :
    Calls Try.prog 16 #[.slice A l.length n] w fun e w' => e = .returned (.int .u32 (crcMore 0 l : Nat)) ∧ Below w.heap.size w w' := by
  go_enter Try.func16, Try.ntmps16
  go_wp2_with (go_at_call 20; refine (crcMore_any 0 (by decide) A n l _ hl hA).mono ?_; rintro e w1 ⟨rfl, hb1⟩)
  go_ret
  exact ⟨rfl, hb1⟩
theorem adler_any (A : Option Addr) (n : Nat) (l : List UInt8) (w : World) (hl : l.length ≤ 140737488351232) (hA : Bs w A l) :
    Calls Try.prog 17 #[.slice A l.length n] w fun e w' => e = .returned (.int .u32 (adlMore 1 l : Nat)) ∧ w = w' := by
  go_enter Try.func17, Try.ntmps17
  go_wp2_with (go_at_call 21; refine (adlerMore_any 1 (by decide) A n l _ hl hA).mono ?_; rintro e w1 ⟨rfl, rfl⟩)
  go_ret
  exact ⟨rfl, rfl⟩
theorem adlerR_any (A : Option Addr) (n : Nat) (l : List UInt8) (w : World) (hl : l.length ≤ 140737488351232) (hA : Bs w A l) :
    Calls Try.prog 19 #[.slice A l.length n] w fun e w' => e = .returned (.int .u32 (adlMore 1 l : Nat)) ∧ w = w' := by
  go_enter Try.func19, Try.ntmps19
  go_wp2_with (go_at_call 37; refine (adlerMoreR_any 1 (by decide) A n l _ hl hA).mono ?_; rintro e w1 ⟨rfl, rfl⟩)
  go_ret
  exact ⟨rfl, rfl⟩
theorem moreR_any (c : Nat) (hc32 : c < 4294967296) (A : Option Addr) (n : Nat) (l : List UInt8) (w : World) (hl : l.length ≤ 140737488351232) (hA : Bs w A l) :
    Calls Try.prog 23 #[.int .u32 c, .slice A l.length n] w fun e w' => e = .returned (.int .u32 (crcMoreR c l : Nat)) ∧ w = w' := by
  have hn := not_walk hc32
  go_enter Try.func23, Try.ntmps23
  go_wp2
  go_loop [0, 5] (fun x i => ∃ k : Nat, k ≤ l.length ∧ i = .int .i64 k ∧ x = .int .u32 ((l.take k).foldl crcBr (not32 c) : Nat)) (fun _ i => l.length - (intOf i).toNat)
  case atStart => exact ⟨0, by omega, rfl, rfl⟩
  case round =>
    obtain ⟨k, hk, rfl, rfl⟩ := hrel
    clear hn
    have hv := crcsr_lt (not32_lt c) (l.take k)
    obtain ⟨v, hve⟩ : ∃ v, v = (l.take k).foldl crcBr (not32 c) := ⟨_, rfl⟩
    rw [← hve] at hv ⊢
    have HVE := Lib.hid hve
    by_cases hlt : k < l.length
    · obtain ⟨ad, rfl, hc⟩ := hA.at hlt
      have hf := foldl_take crcBr (not32 c) l k hlt
      rw [← hve] at hf
      have HF := Lib.hid hf; clear hf hve
      have hcl := l[k].toNat_lt
      have x1 := xc_lt hv l[k]
      have e1 := bits_xor_u32 hv (show l[k].toNat < 4294967296 by omega)
      go_wp2
      go_loop [0, 6] (fun x j => ∃ m : Nat, m ≤ 8 ∧ j = .int .i64 m ∧ x = .int .u32 (iterS m (v ^^^ l[k].toNat) : Nat)) (fun _ j => 8 - (intOf j).toNat)
      case atStart => exact ⟨0, by omega, rfl, rfl⟩
      case round =>
        obtain ⟨m, hm, rfl, rfl⟩ := hrel
        have hb := iterS_lt (n := m) x1
        have m1 := u32_and1 hb
        have hS := iterS_succ m (v ^^^ l[k].toNat)
        clear e1
        obtain ⟨y, hy⟩ : ∃ y, y = iterS m (v ^^^ l[k].toNat) := ⟨_, rfl⟩
        rw [← hy] at hb m1 hS ⊢
        have HS := Lib.hid hS; have HY := Lib.hid hy; clear hS hy
        by_cases h8 : m < 8
        · by_cases h1 : y % 2 = 1
          · have q := S_walk1 hb h1
            rw [h1] at m1
            have h1' := Lib.hid h1; clear h1
            go_wp2
            go_round
            case rel => exact ⟨m + 1, by omega, by go_num, by rw [HS.out]⟩
            case measure => simp [intOf]; omega
          · have q := S_walk0 h1
            rw [show y % 2 = 0 by omega] at m1
            clear h1
            go_wp2
            go_round
            case rel => exact ⟨m + 1, by omega, by go_num, by rw [HS.out]⟩
            case measure => simp [intOf]; omega
        · obtain rfl : m = 8 := by omega
          clear m1
          go_wp2
          go_round
          case rel => exact ⟨k + 1, by omega, by go_num, by rw [HF.out, crcBr, HY.out]⟩
          case measure => simp [intOf]; omega
    · obtain rfl : k = l.length := by omega
      clear hve
      have e3 := not_walk hv
      go_wp2
      go_ret
      exact ⟨ret_int (by rw [HVE.out, List.take_length]; rfl), rfl⟩
theorem crcR_any (A : Option Addr) (n : Nat) (l : List UInt8) (w : World) (hl : l.length ≤ 140737488351232) (hA : Bs w A l) :
    Calls Try.prog 18 #[.slice A l.length n] w fun e w' => e = .returned (.int .u32 (crcMoreR 0 l : Nat)) ∧ w = w' := by
  go_enter Try.func18, Try.ntmps18
  go_wp2_with (go_at_call 23; refine (moreR_any 0 (by decide) A n l _ hl hA).mono ?_; rintro e w1 ⟨rfl, rfl⟩)
  go_ret
  exact ⟨rfl, rfl⟩
theorem join_end {a b : Nat} (ha : a < 65521) (hb : b < 65521) : bits .or .u64 ((a : Int) * 65536) (b : Int) = ((a * 65536 + b : Nat) : Int) := by
  have := bits_or_nat .u64 64 (by decide) (fun n h0 h1 => IntWalk.u64_in n (by omega)) (a := a * 65536) (b := b) (by omega) (by omega)
  rw [or_join (i := 16) (by omega)] at this
  rw [← this]; rfl
theorem mul_small (x y : Nat) (hx : x ≤ 65520) (hy : y ≤ 131055) : x * y ≤ 8586723600 := by
  have := Nat.mul_le_mul hx hy
  simpa using this
theorem join_walk (a b n : Nat) (ha : a < 4294967296) (hb : b < 4294967296) :
    bits BinOp.or IntKind.u64 (IntKind.u64.wrap ((IntKind.u64.wrap ((a : Int) / 65536 + (b : Int) / 65536 + IntKind.u64.wrap ((n : Int) % 65521 * ((a : Int) % 65536 + 65521 - 1)))).tmod 65521 * 65536))
      (((a : Int) % 65536 + (b : Int) % 65536 + 65521 - 1) % 65521) % 4294967296 = (join a b n : Nat) := by
  have h0 := mul_small (n % 65521) (a % 65536 + 65520) (by omega) (by omega)
  have e0 : (n : Int) % 65521 * ((a : Int) % 65536 + 65521 - 1) = ((n % 65521 * (a % 65536 + 65520) : Nat) : Int) := by
    have g1 : ((a % 65536 + 65520 : Nat) : Int) = (a : Int) % 65536 + 65521 - 1 := by omega
    have g2 : ((n % 65521 : Nat) : Int) = (n : Int) % 65521 := by omega
    rw [Int.natCast_mul, g1, g2]
  obtain ⟨p, hp⟩ : ∃ p, p = n % 65521 * (a % 65536 + 65520) := ⟨_, rfl⟩
  rw [← hp] at h0 e0
  have e1 : IntKind.u64.wrap ((n : Int) % 65521 * ((a : Int) % 65536 + 65521 - 1)) = (p : Int) := by rw [e0]; exact IntWalk.u64_in _ (by omega)
  have e2 : IntKind.u64.wrap ((a : Int) / 65536 + (b : Int) / 65536 + (p : Int)) = ((a / 65536 + b / 65536 + p : Nat) : Int) := by rw [IntWalk.u64_in _ (by omega)]; omega
  rw [e1, e2, Int.tmod_eq_emod_of_nonneg (by omega)]
  have h3 := join_end (a := (a / 65536 + b / 65536 + p) % 65521) (b := (a % 65536 + b % 65536 + 65520) % 65521) (Nat.mod_lt _ (by decide)) (Nat.mod_lt _ (by decide))
  have e4 : (((a : Int) % 65536 + (b : Int) % 65536 + 65521 - 1) % 65521) = (((a % 65536 + b % 65536 + 65520) % 65521 : Nat) : Int) := by omega
  have e5 : IntKind.u64.wrap (((a / 65536 + b / 65536 + p : Nat) : Int) % 65521 * 65536) = (((a / 65536 + b / 65536 + p) % 65521 : Nat) : Int) * 65536 := by rw [IntWalk.u64_in _ (by omega)]; omega
  rw [e4, e5, h3, join, ← hp]
  have h1 := Nat.mod_lt (a / 65536 + b / 65536 + p) (y := 65521) (by decide)
  have h2 := Nat.mod_lt (a % 65536 + b % 65536 + 65520) (y := 65521) (by decide)
  omega
theorem join_any (a b n : Nat) (ha : a < 4294967296) (hb : b < 4294967296) (hn : n ≤ 140737488351232) (w : World) :
    Calls Try.prog 22 #[.int .u32 a, .int .u32 b, .int .i64 n] w fun e w' => e = .returned (.int .u32 (join a b n : Nat)) ∧ w = w' := by
  have e1 := u32_and16 ha
  have e2 := u32_and16 hb
  go_enter Try.func22, Try.ntmps22
  go_wp2
  go_ret
  exact ⟨ret_int (join_walk a b n ha hb), rfl⟩
theorem joinR_any (a b n : Nat) (ha : a < 4294967296) (hb : b < 4294967296) (hn : n ≤ 140737488351232) (w : World) :
    Calls Try.prog 24 #[.int .u32 a, .int .u32 b, .int .i64 n] w fun e w' => e = .returned (.int .u32 (join a b n : Nat)) ∧ w = w' := by
  have e1 := u32_and16 ha
  have e2 := u32_and16 hb
  go_enter Try.func24, Try.ntmps24
  go_wp2
  go_ret
  exact ⟨ret_int (join_walk a b n ha hb), rfl⟩
end Go.Proofs.Ytpfjkappgdpfbaa
