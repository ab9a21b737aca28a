/- What the sums are: the table is the bitwise sum; sums go on; Adler joins; CRC is linear and tells turned bits. No condition. -/
import Derived.Test.YtpfjkappgdpfbaaSumP
namespace Go.Proofs.Ytpfjkappgdpfbaa

theorem S_double (m : Nat) : S (2 * m) = m := by unfold S; rw [if_neg (by omega)]; simp
theorem S_zero : S 0 = 0 := by decide
theorem S_xor (a b : Nat) : S (a ^^^ b) = S a ^^^ S b := by
  unfold S
  have h1 : (a ^^^ b) / 2 = a / 2 ^^^ b / 2 := Nat.xor_div_two
  have h2 : (a ^^^ b) % 2 = (a + b) % 2 := by
    have h := Nat.xor_mod_two_pow (a := a) (b := b) (n := 1)
    rw [Nat.pow_one] at h
    rw [h, Nat.add_mod]
    rcases Nat.mod_two_eq_zero_or_one a with ha | ha <;> rcases Nat.mod_two_eq_zero_or_one b with hb | hb <;> rw [ha, hb] <;> rfl
  rw [h1, h2]
  have ac : ∀ x y z u : Nat, (x ^^^ y) ^^^ (z ^^^ u) = (x ^^^ z) ^^^ (y ^^^ u) := fun x y z u => by ac_rfl
  rcases Nat.mod_two_eq_zero_or_one a with ha | ha <;> rcases Nat.mod_two_eq_zero_or_one b with hb | hb
  · rw [if_neg (by omega), if_neg (by omega), if_neg (by omega)]; simp
  · rw [if_pos (by omega), if_neg (by omega), if_pos (by omega)]; simp [Nat.xor_assoc]
  · rw [if_pos (by omega), if_pos (by omega), if_neg (by omega), ac]; simp [Nat.xor_comm]
  · rw [if_neg (by omega), if_pos (by omega), if_pos (by omega), ac]; simp
theorem S_eq_zero {a : Nat} (h : a < 4294967296) (hs : S a = 0) : a = 0 := by
  unfold S at hs
  have hx : a / 2 = if a % 2 = 1 then poly else 0 := by
    have := congrArg (· ^^^ (if a % 2 = 1 then poly else 0)) hs
    simpa [Nat.xor_assoc] using this
  split at hx
  · unfold poly at hx; omega
  · omega
theorem iterS_add (m n v : Nat) : iterS (m + n) v = iterS n (iterS m v) := by
  induction m generalizing v with
  | zero => simp [iterS]
  | succ m ih => rw [Nat.succ_add]; exact ih (S v)
theorem iterS_xor (n a b : Nat) : iterS n (a ^^^ b) = iterS n a ^^^ iterS n b := by
  induction n generalizing a b with
  | zero => rfl
  | succ n ih => rw [iterS, S_xor, ih]; rfl
theorem iterS_zero (n : Nat) : iterS n 0 = 0 := by
  induction n with
  | zero => rfl
  | succ n ih => rw [iterS, S_zero, ih]
theorem iterS_shift (n m : Nat) : iterS n (m * 2 ^ n) = m := by
  induction n generalizing m with
  | zero => simp [iterS]
  | succ n ih => rw [iterS, show m * 2 ^ (n + 1) = 2 * (m * 2 ^ n) by rw [Nat.pow_succ]; ac_rfl, S_double, ih]
theorem iterS_eq_zero {n a : Nat} (h : a < 4294967296) (hs : iterS n a = 0) : a = 0 := by
  induction n generalizing a with
  | zero => exact hs
  | succ n ih => exact S_eq_zero h (ih (S_lt h) hs)
theorem xor_join {a b : Nat} (i : Nat) (hb : b < 2 ^ i) : a * 2 ^ i + b = a * 2 ^ i ^^^ b := by
  apply Nat.eq_of_testBit_eq
  intro j
  rw [Nat.testBit_xor, Nat.mul_comm, Nat.testBit_two_pow_mul_add _ hb, Nat.testBit_two_pow_mul]
  by_cases h : j < i
  · simp [h, Nat.not_le.2 h]
  · have : b.testBit j = false := Nat.testBit_lt_two_pow (Nat.lt_of_lt_of_le hb (Nat.pow_le_pow_right (by decide) (by omega)))
    simp [h, this, Nat.le_of_not_lt h]
theorem half_iter (v : Nat) : half v = iterS 4 v := by
  have e : v = (v / 16) * 2 ^ 4 ^^^ v % 16 := by
    rw [← xor_join 4 (by omega)]; omega
  conv => rhs; rw [e]
  rw [iterS_xor, iterS_shift]; rfl
theorem crcB_iter (v : Nat) (c : UInt8) : crcB v c = crcBr v c := by
  unfold crcB crcBr; rw [half_iter, half_iter, ← iterS_add]
theorem crcB_eq : crcB = crcBr := by funext v c; exact crcB_iter v c
theorem crcMoreR_eq (c : Nat) (l : List UInt8) : crcMoreR c l = crcMore c l := by unfold crcMoreR crcMore; rw [crcB_eq]
theorem not_not32 {v : Nat} (h : v < 4294967296) : not32 (not32 v) = v := by unfold not32; omega
theorem crcMore_append (c : Nat) (a b : List UInt8) : crcMore (crcMore c a) b = crcMore c (a ++ b) := by
  unfold crcMore
  rw [not_not32 (crcs_lt (not32_lt c) a), List.foldl_append]
theorem adls_small (l : List UInt8) : ∀ {s : Nat × Nat}, s.1 < 65521 ∧ s.2 < 65521 → (l.foldl adlB s).1 < 65521 ∧ (l.foldl adlB s).2 < 65521 := by
  induction l with
  | nil => exact fun h => h
  | cons c l ih => exact fun {s} _ => ih (by unfold adlB; omega)
theorem adlOf_back {s : Nat × Nat} (h : s.1 < 65521 ∧ s.2 < 65521) : (adlOf s % 65536, adlOf s / 65536) = s := by
  unfold adlOf; ext <;> simp <;> omega
def adl (l : List UInt8) : Nat × Nat := l.foldl adlB (1, 0)
theorem adl_small (l : List UInt8) : (adl l).1 < 65521 ∧ (adl l).2 < 65521 := adls_small l (by decide)
theorem adlMore_one (l : List UInt8) : adlMore 1 l = adlOf (adl l) := rfl
theorem adlMore_append (a b : List UInt8) : adlMore (adlMore 1 a) b = adlMore 1 (a ++ b) := by
  rw [adlMore_one, adlMore, adlOf_back (adl_small a), adlMore_one, adl, adl, List.foldl_append]
/-- from any state: the first sum is shifted, the second one by its multiple -/
theorem adls_from (l : List UInt8) (s t : Nat × Nat) (d e : Nat) (h1 : s.1 % 65521 = (t.1 + d) % 65521) (h2 : s.2 % 65521 = (t.2 + e) % 65521) :
    (l.foldl adlB s).1 % 65521 = ((l.foldl adlB t).1 + d) % 65521 ∧ (l.foldl adlB s).2 % 65521 = ((l.foldl adlB t).2 + e + l.length * d) % 65521 := by
  induction l generalizing s t e with
  | nil => simp [h1, h2]
  | cons c l ih =>
    have := ih (adlB s c) (adlB t c) (e + d) (by unfold adlB; simp only; omega) (by unfold adlB; simp only; omega)
    refine ⟨this.1, ?_⟩
    rw [List.foldl_cons, List.foldl_cons, this.2, List.length_cons, Nat.add_mul]
    congr 1; omega
theorem adl_join (a b : List UInt8) : join (adlMore 1 a) (adlMore 1 b) b.length = adlMore 1 (a ++ b) := by
  rw [adlMore_one, adlMore_one, adlMore_one]
  have ha := adl_small a
  have hb := adl_small b
  have hc := adl_small (a ++ b)
  have h := adls_from b (adl a) (1, 0) ((adl a).1 + 65520) (adl a).2 (by simp only; omega) (by simp)
  rw [show b.foldl adlB (adl a) = adl (a ++ b) by unfold adl; rw [List.foldl_append]] at h
  rw [show b.foldl adlB (1, 0) = adl b from rfl] at h
  generalize adl (a ++ b) = z at *
  generalize adl b = y at *
  generalize adl a = x at *
  obtain ⟨h1, h2⟩ := h
  unfold join adlOf
  rw [show (x.2 * 65536 + x.1) / 65536 = x.2 by omega, show (x.2 * 65536 + x.1) % 65536 = x.1 by omega, show (y.2 * 65536 + y.1) / 65536 = y.2 by omega, show (y.2 * 65536 + y.1) % 65536 = y.1 by omega]
  have e2 : (x.2 + y.2 + b.length % 65521 * (x.1 + 65520)) % 65521 = z.2 := by
    rw [Nat.mod_eq_of_lt hc.2] at h2
    rw [h2, Nat.add_mod (x.2 + y.2), Nat.mod_mul_mod, ← Nat.add_mod]
    congr 1; omega
  rw [e2]
  have e1 : (x.1 + y.1 + 65520) % 65521 = z.1 := by omega
  rw [e1]
theorem join_one (a : List UInt8) : join (adlMore 1 a) 1 0 = adlMore 1 a := by
  have := adl_join a []
  rwa [List.append_nil] at this

theorem adl_ones (c : UInt8) (n : Nat) : adl (List.replicate n c) = ((1 + n * c.toNat) % 65521, (n + c.toNat * (n * (n + 1) / 2)) % 65521) := by
  induction n with
  | zero => simp [adl]
  | succ n ih =>
    unfold adl at *
    rw [List.replicate_succ', List.foldl_append, ih]
    simp only [List.foldl_cons, List.foldl_nil, adlB]
    have e1 : (n + 1) * c.toNat = n * c.toNat + c.toNat := Nat.succ_mul _ _
    have e2 : (n + 1) * (n + 1 + 1) / 2 = n * (n + 1) / 2 + (n + 1) := by
      rw [show (n + 1) * (n + 1 + 1) = n * (n + 1) + 2 * (n + 1) by rw [Nat.mul_comm n (n + 1), Nat.mul_comm 2 (n + 1), ← Nat.mul_add]]
      omega
    rw [e1, e2, Nat.mul_add c.toNat, Nat.mul_comm c.toNat (n + 1), e1]
    ext <;> simp <;> omega
/-! the bytes as one number -/
def num : List UInt8 → Nat
  | [] => 0
  | c :: l => c.toNat + 256 * num l
theorem crc_num (l : List UInt8) (v : Nat) : l.foldl crcBr v = iterS (8 * l.length) (v ^^^ num l) := by
  induction l generalizing v with
  | nil => simp [num, iterS]
  | cons c l ih =>
    have hc := c.toNat_lt
    rw [List.foldl_cons, ih, List.length_cons, show 8 * (l.length + 1) = 8 + 8 * l.length by omega, iterS_add]
    congr 1
    rw [num, show c.toNat + 256 * num l = num l * 2 ^ 8 + c.toNat by omega, xor_join 8 (by omega), Nat.xor_comm (num l * 2 ^ 8), ← Nat.xor_assoc, iterS_xor, iterS_shift]; rfl
theorem not32_xor {v : Nat} (h : v < 4294967296) : not32 v = 4294967295 ^^^ v := (xor_ones h).symm
theorem crc_of_num (l : List UInt8) : crcMore 0 l = 4294967295 ^^^ iterS (8 * l.length) (4294967295 ^^^ num l) := by
  unfold crcMore
  rw [not32_xor (crcs_lt (not32_lt 0) l), crcB_eq, crc_num, not32_xor (by decide : 0 < 4294967296)]; simp
theorem num_set (l : List UInt8) (j : Nat) (hj : j < l.length) (x : UInt8) : num (l.set j (l[j] ^^^ x)) = num l ^^^ x.toNat * 2 ^ (8 * j) := by
  induction l generalizing j with
  | nil => simp at hj
  | cons c l ih =>
    have hc := c.toNat_lt
    have hx := x.toNat_lt
    cases j with
    | zero =>
      have := Nat.xor_lt_two_pow (n := 8) hc hx
      simp only [List.set_cons_zero, List.getElem_cons_zero, num, UInt8.toNat_xor]
      rw [show (c.toNat ^^^ x.toNat) + 256 * num l = num l * 2 ^ 8 + (c.toNat ^^^ x.toNat) by omega, show c.toNat + 256 * num l = num l * 2 ^ 8 + c.toNat by omega, xor_join 8 this, xor_join 8 hc]
      simp [Nat.xor_assoc]
    | succ j =>
      have h := ih j (by simpa using hj)
      simp only [List.set_cons_succ, List.getElem_cons_succ, num] at *
      rw [h, show c.toNat + 256 * num l = num l * 2 ^ 8 + c.toNat by omega, show c.toNat + 256 * (num l ^^^ x.toNat * 2 ^ (8 * j)) = (num l ^^^ x.toNat * 2 ^ (8 * j)) * 2 ^ 8 + c.toNat by omega, xor_join 8 hc, xor_join 8 hc]
      rw [show 8 * (j + 1) = 8 * j + 8 by omega, Nat.pow_add, ← Nat.mul_assoc]
      have hm : ∀ a b : Nat, (a ^^^ b) * 2 ^ 8 = a * 2 ^ 8 ^^^ b * 2 ^ 8 := fun a b => by
        rw [← Nat.shiftLeft_eq, ← Nat.shiftLeft_eq, ← Nat.shiftLeft_eq, Nat.shiftLeft_xor_distrib]
      rw [hm]; ac_rfl
theorem num_zip (a b : List UInt8) (h : a.length = b.length) : num (List.zipWith (· ^^^ ·) a b) = num a ^^^ num b := by
  induction a generalizing b with
  | nil => cases b with
    | nil => rfl
    | cons _ _ => simp at h
  | cons c l ih => cases b with
    | nil => simp at h
    | cons d m =>
      have hc := c.toNat_lt
      have hd := d.toNat_lt
      have hx := Nat.xor_lt_two_pow (n := 8) hc hd
      have := ih m (by simpa using h)
      simp only [List.zipWith_cons_cons, num, UInt8.toNat_xor]
      rw [this, show c.toNat + 256 * num l = num l * 2 ^ 8 + c.toNat by omega, show d.toNat + 256 * num m = num m * 2 ^ 8 + d.toNat by omega,
        show (c.toNat ^^^ d.toNat) + 256 * (num l ^^^ num m) = (num l ^^^ num m) * 2 ^ 8 + (c.toNat ^^^ d.toNat) by omega, xor_join 8 hc, xor_join 8 hd, xor_join 8 hx]
      have hm : ∀ a b : Nat, (a ^^^ b) * 2 ^ 8 = a * 2 ^ 8 ^^^ b * 2 ^ 8 := fun a b => by
        rw [← Nat.shiftLeft_eq, ← Nat.shiftLeft_eq, ← Nat.shiftLeft_eq, Nat.shiftLeft_xor_distrib]
      rw [hm]; ac_rfl
theorem num_zeros (n : Nat) : num (List.replicate n 0) = 0 := by
  induction n with
  | zero => rfl
  | succ n ih => rw [List.replicate_succ, num, ih]; rfl
/-- three lists of one length -/
theorem crc_three (a b : List UInt8) (h : a.length = b.length) :
    crcMore 0 (List.zipWith (· ^^^ ·) a b) = crcMore 0 a ^^^ crcMore 0 b ^^^ crcMore 0 (List.replicate a.length 0) := by
  rw [crc_of_num, crc_of_num, crc_of_num, crc_of_num, num_zip a b h, num_zeros, List.length_replicate, List.length_zipWith, ← h, Nat.min_self]
  simp only [iterS_xor]
  generalize iterS (8 * a.length) 4294967295 = z
  generalize iterS (8 * a.length) (num a) = x
  generalize iterS (8 * a.length) (num b) = y
  rw [iterS_zero]
  have e : ∀ m z x y : Nat, m ^^^ (z ^^^ x) ^^^ (m ^^^ (z ^^^ y)) ^^^ (m ^^^ (z ^^^ 0)) = m ^^^ (z ^^^ (x ^^^ y)) ^^^ (m ^^^ m) ^^^ (z ^^^ z) := fun m z x y => by simp only [Nat.xor_zero]; ac_rfl
  rw [e]; simp
/-- lists whose numbers differ by a pattern of 32 bits -/
theorem crc_flip (a b : List UInt8) (h : a.length = b.length) (p bit : Nat) (hp : p < 4294967296) (hb : bit ≤ 8 * b.length) (hn : num a = num b ^^^ p * 2 ^ bit) :
    crcMore 0 a = crcMore 0 b ↔ p = 0 := by
  constructor
  · intro he
    rw [crc_of_num, crc_of_num, hn, h] at he
    have h1 := congrArg (4294967295 ^^^ ·) he
    simp only [← Nat.xor_assoc, Nat.xor_self, Nat.zero_xor] at h1
    rw [iterS_xor] at h1
    have h2 : iterS (8 * b.length) (p * 2 ^ bit) = 0 := by
      have := congrArg (iterS (8 * b.length) (4294967295 ^^^ num b) ^^^ ·) h1
      simpa [← Nat.xor_assoc] using this
    rw [show 8 * b.length = bit + (8 * b.length - bit) by omega, iterS_add, iterS_shift] at h2
    exact iterS_eq_zero hp h2
  · intro hp0
    rw [crc_of_num, crc_of_num, hn, h, hp0]; simp
end Go.Proofs.Ytpfjkappgdpfbaa
