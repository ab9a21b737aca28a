/- The sums as functions on numbers and lists of bytes (CRC-32, Adler-32), and their bounds. No condition. -/
import Derived.WalkKit
namespace Go.Proofs.Ytpfjkappgdpfbaa
open Go.RowKit

/-! bits of 32-bit numbers -/
theorem bits_xor_u32 {a b : Nat} (ha : a < 4294967296) (hb : b < 4294967296) : bits .xor .u32 (a : Int) (b : Int) = ((a ^^^ b : Nat) : Int) := by
  have h := Nat.xor_lt_two_pow (n := 32) (x := a) (y := b) (by omega) (by omega)
  have e : (BitVec.ofInt 32 (a : Int) ^^^ BitVec.ofInt 32 (b : Int)).toNat = a ^^^ b := by
    rw [BitVec.ofInt_natCast, BitVec.ofInt_natCast, BitVec.toNat_xor, BitVec.toNat_ofNat, BitVec.toNat_ofNat, Nat.mod_eq_of_lt (by omega), Nat.mod_eq_of_lt (by omega)]
  show IntKind.u32.wrap ((BitVec.ofInt 32 (a : Int) ^^^ BitVec.ofInt 32 (b : Int)).toNat : Int) = _
  rw [e, IntKind.wrap_u32]; omega
theorem bits_and_u32 {a b : Nat} (ha : a < 4294967296) (hb : b < 4294967296) : bits .and .u32 (a : Int) (b : Int) = ((a &&& b : Nat) : Int) := by
  have h : a &&& b < 2 ^ 32 := Nat.and_lt_two_pow _ (by omega)
  have e : (BitVec.ofInt 32 (a : Int) &&& BitVec.ofInt 32 (b : Int)).toNat = a &&& b := by
    rw [BitVec.ofInt_natCast, BitVec.ofInt_natCast, BitVec.toNat_and, BitVec.toNat_ofNat, BitVec.toNat_ofNat, Nat.mod_eq_of_lt (by omega), Nat.mod_eq_of_lt (by omega)]
  show IntKind.u32.wrap ((BitVec.ofInt 32 (a : Int) &&& BitVec.ofInt 32 (b : Int)).toNat : Int) = _
  rw [e, IntKind.wrap_u32]; omega
theorem u32_mask (a : Nat) (ha : a < 4294967296) (i : Nat) (hi : i ≤ 32) : bits .and .u32 (a : Int) ((2 ^ i - 1 : Nat) : Int) = ((a % 2 ^ i : Nat) : Int) := by
  have : 2 ^ i ≤ 2 ^ 32 := Nat.pow_le_pow_right (by decide) hi
  have := Nat.two_pow_pos i
  rw [bits_and_u32 ha (by omega), Nat.and_two_pow_sub_one_eq_mod]
theorem u32_and1 {a : Nat} (ha : a < 4294967296) : bits .and .u32 (a : Int) 1 = ((a % 2 : Nat) : Int) := u32_mask a ha 1 (by decide)
theorem u32_and15 {a : Nat} (ha : a < 4294967296) : bits .and .u32 (a : Int) 15 = ((a % 16 : Nat) : Int) := u32_mask a ha 4 (by decide)
theorem u32_and16 {a : Nat} (ha : a < 4294967296) : bits .and .u32 (a : Int) 65535 = ((a % 65536 : Nat) : Int) := u32_mask a ha 16 (by decide)
theorem bits_or_nat (k : IntKind) (j : Nat) (hj : j ≤ k.bits) (hk : ∀ n : Int, 0 ≤ n → n < 2 ^ j → k.wrap n = n) {a b : Nat} (ha : a < 2 ^ j) (hb : b < 2 ^ j) :
    bits .or k (a : Int) (b : Int) = ((a ||| b : Nat) : Int) := (bits_nat k j hj hk a b ha hb).2
theorem or_join {a b : Nat} (i : Nat) (hb : b < 2 ^ i) : a * 2 ^ i ||| b = a * 2 ^ i + b := by
  rw [Nat.mul_comm, ← Nat.two_pow_add_eq_or_of_lt hb a]

/-! CRC-32 -/
def poly : Nat := 3988292384
def S (v : Nat) : Nat := v / 2 ^^^ (if v % 2 = 1 then poly else 0)
def iterS : Nat → Nat → Nat
  | 0, v => v
  | n + 1, v => iterS n (S v)
theorem iterS_succ (n v : Nat) : iterS (n + 1) v = S (iterS n v) := by
  induction n generalizing v with
  | zero => rfl
  | succ n ih => rw [iterS, ih]; rfl
theorem S_lt {v : Nat} (h : v < 4294967296) : S v < 4294967296 := by
  unfold S
  refine Nat.xor_lt_two_pow (n := 32) (by omega) ?_
  split <;> decide
theorem iterS_lt {n v : Nat} (h : v < 4294967296) : iterS n v < 4294967296 := by
  induction n generalizing v with
  | zero => exact h
  | succ n ih => exact ih (S_lt h)
def T (i : Nat) : Nat := iterS 4 i
theorem T_lt {i : Nat} (h : i < 16) : T i < 4294967296 := iterS_lt (by omega)
def half (v : Nat) : Nat := v / 16 ^^^ T (v % 16)
theorem half_lt {v : Nat} (h : v < 4294967296) : half v < 4294967296 :=
  Nat.xor_lt_two_pow (n := 32) (by omega) (T_lt (by omega))
def crcB (v : Nat) (c : UInt8) : Nat := half (half (v ^^^ c.toNat))
theorem xc_lt {v : Nat} (h : v < 4294967296) (c : UInt8) : v ^^^ c.toNat < 4294967296 :=
  Nat.xor_lt_two_pow (n := 32) (by omega) (by have := c.toNat_lt; omega)
theorem crcB_lt {v : Nat} (h : v < 4294967296) (c : UInt8) : crcB v c < 4294967296 := half_lt (half_lt (xc_lt h c))
theorem crcs_lt {v : Nat} (h : v < 4294967296) (l : List UInt8) : l.foldl crcB v < 4294967296 := by
  induction l generalizing v with
  | nil => exact h
  | cons c l ih => exact ih (crcB_lt h c)
def crcBr (v : Nat) (c : UInt8) : Nat := iterS 8 (v ^^^ c.toNat)
theorem crcsr_lt {v : Nat} (h : v < 4294967296) (l : List UInt8) : l.foldl crcBr v < 4294967296 := by
  induction l generalizing v with
  | nil => exact h
  | cons c l ih => exact ih (iterS_lt (xc_lt h c))
def not32 (v : Nat) : Nat := 4294967295 - v
theorem xor_ones {v : Nat} (h : v < 4294967296) : 4294967295 ^^^ v = not32 v := by
  have e : (BitVec.allOnes 32 ^^^ BitVec.ofNat 32 v).toNat = not32 v := by
    rw [BitVec.allOnes_xor, BitVec.toNat_not, BitVec.toNat_ofNat, Nat.mod_eq_of_lt (by omega)]; rfl
  rw [BitVec.toNat_xor, BitVec.toNat_ofNat, Nat.mod_eq_of_lt (by omega)] at e
  exact e
theorem not32_lt (v : Nat) : not32 v < 4294967296 := by unfold not32; omega
theorem not_walk {v : Nat} (h : v < 4294967296) : bits .xor .u32 IntKind.u32.max (v : Int) = (not32 v : Nat) := by
  have := bits_xor_u32 (a := 4294967295) (b := v) (by decide) h
  rw [xor_ones h] at this
  exact this
def crcMore (v : Nat) (l : List UInt8) : Nat := not32 (l.foldl crcB (not32 v))
def crcMoreR (v : Nat) (l : List UInt8) : Nat := not32 (l.foldl crcBr (not32 v))
theorem crcMore_lt (v : Nat) (l : List UInt8) : crcMore v l < 4294967296 := by unfold crcMore not32; omega
theorem crcMoreR_lt (v : Nat) (l : List UInt8) : crcMoreR v l < 4294967296 := by unfold crcMoreR not32; omega

/-! Adler-32 -/
def adlB (s : Nat × Nat) (c : UInt8) : Nat × Nat := ((s.1 + c.toNat) % 65521, (s.2 + (s.1 + c.toNat) % 65521) % 65521)
def adlOf (s : Nat × Nat) : Nat := s.2 * 65536 + s.1
def adlMore (a : Nat) (l : List UInt8) : Nat := adlOf (l.foldl adlB (a % 65536, a / 65536))
theorem adlB_lt (s : Nat × Nat) (c : UInt8) : (adlB s c).1 < 65536 ∧ (adlB s c).2 < 65536 := by unfold adlB; omega
theorem adls_lt (l : List UInt8) : ∀ {s : Nat × Nat}, s.1 < 65536 ∧ s.2 < 65536 → (l.foldl adlB s).1 < 65536 ∧ (l.foldl adlB s).2 < 65536 := by
  induction l with
  | nil => exact fun h => h
  | cons c l ih => exact fun {s} _ => ih (adlB_lt s c)
theorem adlMore_lt {a : Nat} (h : a < 4294967296) (l : List UInt8) : adlMore a l < 4294967296 := by
  have := adls_lt l (s := (a % 65536, a / 65536)) (by constructor <;> simp <;> omega)
  unfold adlMore adlOf; omega
def join (a b n : Nat) : Nat :=
  ((a / 65536 + b / 65536 + n % 65521 * (a % 65536 + 65520)) % 65521) * 65536 + (a % 65536 + b % 65536 + 65520) % 65521
theorem join_lt (a b n : Nat) : join a b n < 4294967296 := by
  unfold join
  have h1 := Nat.mod_lt (a / 65536 + b / 65536 + n % 65521 * (a % 65536 + 65520)) (y := 65521) (by decide)
  have h2 := Nat.mod_lt (a % 65536 + b % 65536 + 65520) (y := 65521) (by decide)
  omega
end Go.Proofs.Ytpfjkappgdpfbaa
