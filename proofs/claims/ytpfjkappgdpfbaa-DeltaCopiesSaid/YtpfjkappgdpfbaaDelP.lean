/- Deltas as functions on numbers and lists of bytes: sizes, steps, what comes out, how they are written; and what a written delta tells. No condition. -/
import Derived.WalkKit
namespace Go.Proofs.Ytpfjkappgdpfbaa
set_option linter.unusedVariables false

/-! sizes -/
def putSize (v : Nat) : List UInt8 := if v < 128 then [UInt8.ofNat v] else UInt8.ofNat (v % 128 + 128) :: putSize (v / 128)
def sizeR : List UInt8 → Nat → Nat → Nat × Nat × Nat
  | [], i, _ => if 9 ≤ i then (0, 0, 5) else (0, 0, 3)
  | c :: l, i, v => if i = 9 then (0, 0, 5) else
      if c.toNat < 128 then (v ||| (c.toNat % 128) * 2 ^ (7 * i), i + 1, 0) else sizeR l (i + 1) (v ||| (c.toNat % 128) * 2 ^ (7 * i))
def size (l : List UInt8) : Nat × Nat × Nat := sizeR l 0 0
theorem or_add {a b : Nat} (i : Nat) (ha : a < 2 ^ i) : a ||| b * 2 ^ i = a + b * 2 ^ i := by
  have := Nat.two_pow_add_eq_or_of_lt ha b
  rw [Nat.or_comm, Nat.mul_comm b, ← this, Nat.add_comm]
theorem putSize_pos (v : Nat) : 0 < (putSize v).length := by
  rw [putSize]; split <;> simp
theorem size_put (u : Nat) : ∀ (i acc : Nat) (rest : List UInt8), acc < 2 ^ (7 * i) → u < 2 ^ (63 - 7 * i) → i ≤ 8 → sizeR (putSize u ++ rest) i acc = (acc + u * 2 ^ (7 * i), i + (putSize u).length, 0) := by
  induction u using Nat.strongRecOn with
  | _ u ih =>
    intro i acc rest ha hu hi
    by_cases h : u < 128
    · rw [putSize, if_pos h]
      have e : (UInt8.ofNat u).toNat = u := by simp; omega
      simp only [List.cons_append, List.nil_append, sizeR]
      rw [if_neg (by omega), e, if_pos h, Nat.mod_eq_of_lt h, or_add _ ha]; rfl
    · rw [putSize, if_neg h]
      have e : (UInt8.ofNat (u % 128 + 128)).toNat = u % 128 + 128 := by simp; omega
      simp only [List.cons_append, sizeR]
      have hi8 : i < 8 := by
        rcases Nat.lt_or_ge i 8 with h8 | h8
        · exact h8
        · have : i = 8 := by omega
          subst this
          have : u < 2 ^ 7 := hu
          omega
      have p : 2 ^ (7 * (i + 1)) = 128 * 2 ^ (7 * i) := by rw [Nat.mul_add, Nat.pow_add]; omega
      have p2 : 2 ^ (63 - 7 * i) = 2 ^ (63 - 7 * (i + 1)) * 128 := by rw [show 63 - 7 * i = 63 - 7 * (i + 1) + 7 by omega, Nat.pow_add]
      rw [if_neg (by omega), e, if_neg (by omega), show (u % 128 + 128) % 128 = u % 128 by omega, or_add _ ha]
      have hm : u % 128 * 2 ^ (7 * i) ≤ 127 * 2 ^ (7 * i) := Nat.mul_le_mul_right _ (by omega)
      rw [ih (u / 128) (by omega) (i + 1) _ rest (by rw [p]; omega) (by rw [p2] at hu; exact Nat.div_lt_of_lt_mul (by rw [Nat.mul_comm]; exact hu)) (by omega)]
      have hd : u = 128 * (u / 128) + u % 128 := (Nat.div_add_mod u 128).symm
      have hx : acc + u % 128 * 2 ^ (7 * i) + u / 128 * 2 ^ (7 * (i + 1)) = acc + u * 2 ^ (7 * i) := by
        rw [p]
        conv => rhs; rw [hd, Nat.add_mul]
        rw [Nat.mul_comm (u / 128), Nat.mul_assoc, Nat.mul_comm (2 ^ (7 * i)) (u / 128), ← Nat.mul_assoc]
        omega
      rw [hx, List.length_cons]
      simp; omega
theorem size_put0 (u : Nat) (h : u < 2 ^ 63) (rest : List UInt8) : size (putSize u ++ rest) = (u, (putSize u).length, 0) := by
  have := size_put u 0 0 rest (by decide) h (by omega)
  unfold size
  simpa using this

/-! steps -/
structure DOp where
  cp : Bool
  fr : Int
  n : Int
  data : List UInt8
  deriving DecidableEq
def cpR (c : Nat) : Nat → List UInt8 → Nat → Nat → Option (Nat × Nat × List UInt8)
  | 0, d, fr, n => some (fr, n, d)
  | j + 1, d, fr, n =>
    if c / 2 ^ (6 - j) % 2 = 0 then cpR c j d fr n
    else match d with
      | [] => none
      | b :: d' => if 6 - j < 4 then cpR c j d' (fr ||| b.toNat * 2 ^ (8 * (6 - j))) n else cpR c j d' fr (n ||| b.toNat * 2 ^ (8 * (6 - j - 4)))
theorem cpR_no {c j : Nat} {d : List UInt8} {fr n : Nat} (h : c / 2 ^ (6 - j) % 2 = 0) : cpR c (j + 1) d fr n = cpR c j d fr n := by
  cases d <;> simp only [cpR] <;> rw [if_pos h]
theorem cpR_end {c j : Nat} {fr n : Nat} (h : ¬ c / 2 ^ (6 - j) % 2 = 0) : cpR c (j + 1) [] fr n = none := by
  simp only [cpR]; rw [if_neg h]
theorem cpR_yes {c j : Nat} {b : UInt8} {d : List UInt8} {fr n : Nat} (h : ¬ c / 2 ^ (6 - j) % 2 = 0) :
    cpR c (j + 1) (b :: d) fr n = if 6 - j < 4 then cpR c j d (fr ||| b.toNat * 2 ^ (8 * (6 - j))) n else cpR c j d fr (n ||| b.toNat * 2 ^ (8 * (6 - j - 4))) := by
  simp only [cpR]; rw [if_neg h]
theorem cpR_len (c : Nat) : ∀ (j : Nat) (d : List UInt8) (fr n : Nat) (r : Nat × Nat × List UInt8), cpR c j d fr n = some r → r.2.2.length ≤ d.length
  | 0, d, fr, n, r, h => by simp only [cpR, Option.some.injEq] at h; subst h; exact Nat.le_refl _
  | j + 1, d, fr, n, r, h => by
    simp only [cpR] at h
    split at h
    · exact cpR_len c j d fr n r h
    · cases d with
      | nil => cases h
      | cons b d' =>
        simp only at h
        split at h
        · exact Nat.le_succ_of_le (cpR_len c j d' _ _ r h)
        · exact Nat.le_succ_of_le (cpR_len c j d' _ _ r h)
def stepR : List UInt8 → Except Nat (DOp × List UInt8)
  | [] => .error 2
  | c :: d => if c.toNat = 0 then .error 2 else
      if c.toNat < 128 then (if d.length < c.toNat then .error 3 else .ok (⟨false, 0, 0, d.take c.toNat⟩, d.drop c.toNat))
      else match cpR c.toNat 7 d 0 0 with
        | none => .error 3
        | some (fr, n, r) => .ok (⟨true, fr, if n = 0 then 65536 else (n : Int), []⟩, r)
theorem stepR_len {d : List UInt8} {o : DOp} {r : List UInt8} (h : stepR d = .ok (o, r)) : r.length < d.length := by
  cases d with
  | nil => cases h
  | cons c d =>
    simp only [stepR] at h
    split at h
    · cases h
    · split at h
      · split at h
        · cases h
        · cases h; simp; omega
      · split at h
        · cases h
        · rename_i hc
          cases h
          have := cpR_len _ _ _ _ _ _ hc
          simp at this ⊢; omega
def parseR (d : List UInt8) : Except Nat (List DOp) :=
  if d = [] then .ok [] else
    match h : stepR d with
    | .error e => .error e
    | .ok (o, r) => match parseR r with
      | .error e => .error e
      | .ok l => .ok (o :: l)
termination_by d.length
decreasing_by exact stepR_len h
theorem parseR_nil : parseR [] = .ok [] := by rw [parseR]; rfl
theorem parseR_bad {d : List UInt8} {e : Nat} (hd : d ≠ []) (h : stepR d = .error e) : parseR d = .error e := by
  rw [parseR, if_neg hd]
  split
  · rename_i h2; rw [h] at h2; cases h2; rfl
  · rename_i h2; rw [h] at h2; cases h2
theorem parseR_step {d : List UInt8} {o : DOp} {r : List UInt8} (h : stepR d = .ok (o, r)) : parseR d = (match parseR r with | .error e => .error e | .ok l => .ok (o :: l)) := by
  have hd : d ≠ [] := by rintro rfl; cases h
  rw [parseR, if_neg hd]
  split
  · rename_i h2; rw [h] at h2; cases h2
  · rename_i h2; rw [h] at h2; cases h2; rfl
/-- sizes and steps: base, out, how many bytes the sizes have, the fault -/
def sizesR (d : List UInt8) : Nat × Nat × Nat × Nat :=
  if (size d).2.2 = 0 then (if (size (d.drop (size d).2.1)).2.2 = 0 then ((size d).1, (size (d.drop (size d).2.1)).1, (size d).2.1 + (size (d.drop (size d).2.1)).2.1, 0) else (0, 0, 0, (size (d.drop (size d).2.1)).2.2)) else (0, 0, 0, (size d).2.2)
def deltaR (d : List UInt8) : Nat × Nat × List DOp × Nat :=
  if (sizesR d).2.2.2 = 0 then
    match parseR (d.drop (sizesR d).2.2.1) with
    | .error e => (0, 0, [], e)
    | .ok l => ((sizesR d).1, (sizesR d).2.1, l, 0)
  else (0, 0, [], (sizesR d).2.2.2)
/-! what comes out -/
def opB (base : List UInt8) (o : DOp) : List UInt8 := if o.cp then (base.drop o.fr.toNat).take o.n.toNat else o.data
def opIn (base : List UInt8) (o : DOp) : Prop := o.cp = true → ¬ (base.length : Int) < o.fr ∧ ¬ (base.length : Int) - o.fr < o.n
instance (base : List UInt8) (o : DOp) : Decidable (opIn base o) := by unfold opIn; infer_instance
def applyR (base : List UInt8) (size : Nat) : List DOp → List UInt8 → List UInt8 × Nat
  | [], out => if out.length = size then (out, 0) else ([], 2)
  | o :: l, out => if opIn base o then (if size - out.length < (opB base o).length then ([], 2) else applyR base size l (out ++ opB base o)) else ([], 2)
def applyD (base d : List UInt8) (most : Int) : List UInt8 × Nat :=
  if (deltaR d).2.2.2 = 0 then (if (deltaR d).1 = base.length then (if most < (deltaR d).2.1 then ([], 5) else applyR base (deltaR d).2.1 (deltaR d).2.2.1 []) else ([], 2)) else ([], (deltaR d).2.2.2)
/-! writing -/
def encB (fr n i : Nat) : Nat := if i < 4 then fr / 2 ^ (8 * i) % 256 else n / 2 ^ (8 * (i - 4)) % 256
def encC (fr n : Nat) : Nat → Nat
  | 0 => 128
  | i + 1 => if encB fr n i = 0 then encC fr n i else encC fr n i + 2 ^ i
def encT (fr n : Nat) : Nat → List UInt8
  | 0 => []
  | i + 1 => if encB fr n i = 0 then encT fr n i else encT fr n i ++ [UInt8.ofNat (encB fr n i)]
def cutN (n : Nat) : Nat := if n = 65536 then 0 else n
def encCopy (fr n : Nat) : List UInt8 := UInt8.ofNat (encC fr (cutN n) 7) :: encT fr (cutN n) 7
def enc (o : DOp) : List UInt8 := if o.cp then encCopy o.fr.toNat o.n.toNat else UInt8.ofNat o.data.length :: o.data
def encs (l : List DOp) : List UInt8 := l.flatMap enc
def okOp (o : DOp) : Prop := if o.cp then 0 ≤ o.fr ∧ o.fr ≤ 4294967295 ∧ 1 ≤ o.n ∧ o.n ≤ 65536 ∧ o.data = [] else 1 ≤ o.data.length ∧ o.data.length ≤ 127 ∧ o.fr = 0 ∧ o.n = 0
instance (o : DOp) : Decidable (okOp o) := by unfold okOp; infer_instance
def printR (base out : Int) (l : List DOp) : List UInt8 × Nat :=
  if base < 0 ∨ out < 0 ∨ ¬ ∀ o ∈ l, okOp o then ([], 1) else (putSize base.toNat ++ putSize out.toNat ++ encs l, 0)

/-! a step that is written is told again -/
/-- the bytes from the i-th on that are not 0 -/
def tailF (fr n : Nat) : Nat → List UInt8
  | 0 => []
  | j + 1 => if encB fr n (6 - j) = 0 then tailF fr n j else UInt8.ofNat (encB fr n (6 - j)) :: tailF fr n j
theorem encT_tail (fr n : Nat) : ∀ j, j ≤ 7 → encT fr n 7 = encT fr n (7 - j) ++ tailF fr n j
  | 0, _ => by simp [tailF]
  | j + 1, h => by
    rw [encT_tail fr n j (by omega), show 7 - j = (6 - j) + 1 by omega, encT, tailF, show 7 - (j + 1) = 6 - j by omega]
    split <;> simp
theorem encT_all (fr n : Nat) : encT fr n 7 = tailF fr n 7 := encT_tail fr n 7 (Nat.le_refl _)
theorem cmd_bits (b : Nat → Bool) (f : Nat → Nat) (h0 : f 0 = 128) (hs : ∀ i, f (i + 1) = if b i then f i + 2 ^ i else f i) :
    128 ≤ f 7 ∧ f 7 < 256 ∧ ∀ i, i < 7 → f 7 / 2 ^ i % 2 = if b i then 1 else 0 := by
  have key : ∀ b0 b1 b2 b3 b4 b5 b6 : Bool, ∀ x, x = 128 + (if b0 then 1 else 0) + (if b1 then 2 else 0) + (if b2 then 4 else 0) + (if b3 then 8 else 0) + (if b4 then 16 else 0) + (if b5 then 32 else 0) + (if b6 then 64 else 0) →
      128 ≤ x ∧ x < 256 ∧ x % 2 = (if b0 then 1 else 0) ∧ x / 2 % 2 = (if b1 then 1 else 0) ∧ x / 4 % 2 = (if b2 then 1 else 0) ∧ x / 8 % 2 = (if b3 then 1 else 0) ∧ x / 16 % 2 = (if b4 then 1 else 0) ∧ x / 32 % 2 = (if b5 then 1 else 0) ∧ x / 64 % 2 = (if b6 then 1 else 0) := by
    intro b0 b1 b2 b3 b4 b5 b6 x hx
    subst hx
    revert b0 b1 b2 b3 b4 b5 b6
    decide
  have e : f 7 = 128 + (if b 0 then 1 else 0) + (if b 1 then 2 else 0) + (if b 2 then 4 else 0) + (if b 3 then 8 else 0) + (if b 4 then 16 else 0) + (if b 5 then 32 else 0) + (if b 6 then 64 else 0) := by
    rw [hs 6, hs 5, hs 4, hs 3, hs 2, hs 1, hs 0, h0]
    cases b 0 <;> cases b 1 <;> cases b 2 <;> cases b 3 <;> cases b 4 <;> cases b 5 <;> cases b 6 <;> rfl
  obtain ⟨h1, h2, k0, k1, k2, k3, k4, k5, k6⟩ := key _ _ _ _ _ _ _ _ e
  refine ⟨h1, h2, fun i hi => ?_⟩
  match i, hi with
  | 0, _ => rw [← k0]; simp
  | 1, _ => exact k1
  | 2, _ => exact k2
  | 3, _ => exact k3
  | 4, _ => exact k4
  | 5, _ => exact k5
  | 6, _ => exact k6
theorem encC_bits (fr n : Nat) : 128 ≤ encC fr n 7 ∧ encC fr n 7 < 256 ∧ ∀ i, i < 7 → (encC fr n 7 / 2 ^ i % 2 = 0 ↔ encB fr n i = 0) := by
  obtain ⟨h1, h2, h3⟩ := cmd_bits (fun i => encB fr n i != 0) (encC fr n) rfl (fun i => by rw [encC]; by_cases h : encB fr n i = 0 <;> simp [h])
  refine ⟨h1, h2, fun i hi => ?_⟩
  rw [h3 i hi]
  by_cases h : encB fr n i = 0 <;> simp [h]
theorem low_or (x i : Nat) : x % 2 ^ (8 * i) ||| x / 2 ^ (8 * i) % 256 * 2 ^ (8 * i) = x % 2 ^ (8 * (i + 1)) := by
  rw [or_add _ (Nat.mod_lt _ (Nat.two_pow_pos _)), show 8 * (i + 1) = 8 * i + 8 by omega, Nat.pow_add, Nat.mod_mul, Nat.mul_comm (x / 2 ^ (8 * i) % 256)]
theorem low_zero {x i : Nat} (h : x / 2 ^ (8 * i) % 256 = 0) : x % 2 ^ (8 * (i + 1)) = x % 2 ^ (8 * i) := by
  rw [← low_or, h]; simp
theorem cpR_tail (fr n c : Nat) (hc : ∀ i, i < 7 → (c / 2 ^ i % 2 = 0 ↔ encB fr n i = 0)) (rest : List UInt8) : ∀ j, j ≤ 7 →
    cpR c j (tailF fr n j ++ rest) (fr % 2 ^ (8 * min (7 - j) 4)) (n % 2 ^ (8 * (7 - j - 4))) = some (fr % 2 ^ 32, n % 2 ^ 24, rest)
  | 0, _ => by simp [cpR, tailF]
  | j + 1, h => by
    have ih := cpR_tail fr n c hc rest j (by omega)
    have hb := hc (6 - j) (by omega)
    rw [tailF]
    have e7 : 7 - (j + 1) = 6 - j := by omega
    have e7' : 7 - j = 6 - j + 1 := by omega
    rw [e7]
    rw [e7'] at ih
    by_cases hz : encB fr n (6 - j) = 0
    · rw [cpR_no (hb.2 hz), if_pos hz]
      rw [← ih]
      unfold encB at hz
      split at hz
      · rename_i h4
        rw [show min (6 - j) 4 = 6 - j by omega, show min (6 - j + 1) 4 = 6 - j + 1 by omega, low_zero hz, show 6 - j - 4 = 0 by omega, show 6 - j + 1 - 4 = 0 by omega]
      · rename_i h4
        rw [show min (6 - j) 4 = 4 by omega, show min (6 - j + 1) 4 = 4 by omega, show 6 - j + 1 - 4 = (6 - j - 4) + 1 by omega, low_zero hz]
    · rw [if_neg hz]
      have hlt : encB fr n (6 - j) < 256 := by unfold encB; split <;> exact Nat.mod_lt _ (by decide)
      have hv : (UInt8.ofNat (encB fr n (6 - j))).toNat = encB fr n (6 - j) := by simp; omega
      rw [List.cons_append, cpR_yes (fun e => hz (hb.1 e)), hv]
      rw [← ih]
      unfold encB
      split
      · rename_i h4
        rw [show min (6 - j) 4 = 6 - j by omega, show min (6 - j + 1) 4 = 6 - j + 1 by omega, low_or, show 6 - j - 4 = 0 by omega, show 6 - j + 1 - 4 = 0 by omega]
      · rename_i h4
        rw [show min (6 - j) 4 = 4 by omega, show min (6 - j + 1) 4 = 4 by omega, show 6 - j + 1 - 4 = (6 - j - 4) + 1 by omega, low_or]
theorem step_enc (o : DOp) (h : okOp o) (rest : List UInt8) : stepR (enc o ++ rest) = .ok (o, rest) := by
  obtain ⟨cp, fr, n, data⟩ := o
  unfold okOp at h
  cases cp with
  | false =>
    simp only [Bool.false_eq_true, if_false] at h
    obtain ⟨h1, h2, h3, h4⟩ := h
    subst h3 h4
    have e : (UInt8.ofNat data.length).toNat = data.length := by simp; omega
    simp only [enc, Bool.false_eq_true, if_false, List.cons_append, stepR, e]
    rw [if_neg (by omega), if_pos (by omega), if_neg (by simp)]
    simp
  | true =>
    simp only [if_true] at h
    obtain ⟨h1, h2, h3, h4, h5⟩ := h
    subst h5
    obtain ⟨f, rfl⟩ : ∃ f : Nat, fr = f := ⟨fr.toNat, by omega⟩
    obtain ⟨m, rfl⟩ : ∃ m : Nat, n = m := ⟨n.toNat, by omega⟩
    obtain ⟨c1, c2, c3⟩ := encC_bits f (cutN m)
    have e : (UInt8.ofNat (encC f (cutN m) 7)).toNat = encC f (cutN m) 7 := by simp; omega
    have hcp := cpR_tail f (cutN m) _ c3 rest 7 (Nat.le_refl _)
    have hm : cutN m < 65536 := by unfold cutN; split <;> omega
    simp only [enc, if_true, encCopy, Int.toNat_natCast, List.cons_append, stepR, e]
    rw [if_neg (by omega), if_neg (by omega), encT_all]
    simp only [Nat.sub_self, Nat.zero_min, Nat.mul_zero, Nat.pow_zero, Nat.mod_one, Nat.zero_sub] at hcp
    rw [hcp]
    simp only [Nat.mod_eq_of_lt (show f < 2 ^ 32 by omega), Nat.mod_eq_of_lt (show cutN m < 2 ^ 24 by omega)]
    congr 3
    unfold cutN
    split <;> split <;> omega
theorem parse_encs (l : List DOp) (h : ∀ o ∈ l, okOp o) : parseR (encs l) = .ok l := by
  induction l with
  | nil => exact parseR_nil
  | cons o l ih =>
    rw [show encs (o :: l) = enc o ++ encs l from rfl, parseR_step (step_enc o (h o (by simp)) (encs l)), ih (fun o' ho => h o' (by simp [ho]))]
theorem deltaR_print (base out : Nat) (hb : base < 2 ^ 63) (ho : out < 2 ^ 63) (l : List DOp) (h : ∀ o ∈ l, okOp o) :
    sizesR (putSize base ++ putSize out ++ encs l) = (base, out, (putSize base).length + (putSize out).length, 0) ∧ deltaR (putSize base ++ putSize out ++ encs l) = (base, out, l, 0) := by
  have e1 : size (putSize base ++ putSize out ++ encs l) = (base, (putSize base).length, 0) := by rw [List.append_assoc]; exact size_put0 base hb _
  have e2 : (putSize base ++ putSize out ++ encs l).drop (putSize base).length = putSize out ++ encs l := by rw [List.append_assoc]; exact List.drop_left
  have e3 : size (putSize out ++ encs l) = (out, (putSize out).length, 0) := size_put0 out ho _
  have hs : sizesR (putSize base ++ putSize out ++ encs l) = (base, out, (putSize base).length + (putSize out).length, 0) := by
    unfold sizesR; rw [e1]; simp only [if_true]; rw [e2, e3]; simp
  refine ⟨hs, ?_⟩
  unfold deltaR
  rw [hs]
  simp only [if_true]
  have e4 : (putSize base ++ putSize out ++ encs l).drop ((putSize base).length + (putSize out).length) = encs l := by
    rw [← List.length_append]; exact List.drop_left
  rw [e4, parse_encs l h]
theorem or_lt {a x i : Nat} (ha : a < 2 ^ (8 * i)) (hx : x < 256) : a ||| x * 2 ^ (8 * i) < 2 ^ (8 * (i + 1)) := by
  have h3 : 2 ^ (8 * (i + 1)) = 256 * 2 ^ (8 * i) := by rw [Nat.mul_add, Nat.pow_add]; omega
  have h4 : x * 2 ^ (8 * i) ≤ 255 * 2 ^ (8 * i) := Nat.mul_le_mul_right _ (by omega)
  rw [or_add _ ha]; omega
theorem cpR_bd (c : Nat) : ∀ (j : Nat) (d : List UInt8) (fr n a b : Nat) (r : List UInt8), j ≤ 7 → fr < 2 ^ (8 * min (7 - j) 4) → n < 2 ^ (8 * (7 - j - 4)) → cpR c j d fr n = some (a, b, r) → a < 2 ^ 32 ∧ b < 2 ^ 24
  | 0, d, fr, n, a, b, r, _, hf, hn, h => by
    simp only [cpR, Option.some.injEq, Prod.mk.injEq] at h
    obtain ⟨rfl, rfl, _⟩ := h
    exact ⟨hf, hn⟩
  | j + 1, d, fr, n, a, b, r, hj, hf, hn, h => by
    have m1 : 2 ^ (8 * min (7 - (j + 1)) 4) ≤ 2 ^ (8 * min (7 - j) 4) := Nat.pow_le_pow_right (by decide) (by omega)
    have m2 : 2 ^ (8 * (7 - (j + 1) - 4)) ≤ 2 ^ (8 * (7 - j - 4)) := Nat.pow_le_pow_right (by decide) (by omega)
    by_cases hb : c / 2 ^ (6 - j) % 2 = 0
    · rw [cpR_no hb] at h
      exact cpR_bd c j d fr n a b r (by omega) (by omega) (by omega) h
    · cases d with
      | nil => rw [cpR_end hb] at h; cases h
      | cons x d' =>
        rw [cpR_yes hb] at h
        have hx := x.toNat_lt
        split at h
        · rename_i h4
          have := or_lt (a := fr) (x := x.toNat) (i := 6 - j) (by rwa [show min (7 - (j + 1)) 4 = 6 - j by omega] at hf) hx
          exact cpR_bd c j d' _ n a b r (by omega) (by rwa [show min (7 - j) 4 = 6 - j + 1 by omega]) (by omega) h
        · rename_i h4
          have := or_lt (a := n) (x := x.toNat) (i := 6 - j - 4) (by rwa [show 7 - (j + 1) - 4 = 6 - j - 4 by omega] at hn) hx
          exact cpR_bd c j d' fr _ a b r (by omega) (by omega) (by rwa [show 7 - j - 4 = 6 - j - 4 + 1 by omega]) h
/-- what a step that was told may be -/
def opBd (o : DOp) : Prop := o.cp = true → 0 ≤ o.fr ∧ o.fr < 4294967296 ∧ 0 ≤ o.n ∧ o.n < 16777216
theorem stepR_bd {d : List UInt8} {o : DOp} {r : List UInt8} (h : stepR d = .ok (o, r)) : opBd o := by
  cases d with
  | nil => cases h
  | cons c d =>
    simp only [stepR] at h
    split at h
    · cases h
    · split at h
      · split at h
        · cases h
        · cases h; intro h; cases h
      · split at h
        · cases h
        · rename_i hc
          cases h
          have := cpR_bd _ 7 _ 0 0 _ _ _ (by omega) (by decide) (by decide) hc
          intro _
          simp only
          split <;> omega
theorem parseR_bd : ∀ (k : Nat) (d : List UInt8) (l : List DOp), d.length ≤ k → parseR d = .ok l → ∀ o ∈ l, opBd o
  | 0, d, l, hk, h => by
    have : d = [] := List.eq_nil_of_length_eq_zero (by omega)
    subst this
    rw [parseR_nil] at h
    cases h; simp
  | k + 1, d, l, hk, h => by
    cases hs : stepR d with
    | error e =>
      by_cases hd : d = []
      · subst hd; rw [parseR_nil] at h; cases h; simp
      · rw [parseR_bad hd hs] at h; cases h
    | ok p =>
      obtain ⟨o, r⟩ := p
      have hl := stepR_len hs
      rw [parseR_step hs] at h
      cases hr : parseR r with
      | error e => rw [hr] at h; cases h
      | ok l' =>
        rw [hr] at h
        cases h
        intro o' ho'
        rcases List.mem_cons.1 ho' with rfl | ho'
        · exact stepR_bd hs
        · exact parseR_bd k r l' (by omega) hr o' ho'
theorem deltaR_bd (d : List UInt8) : ∀ o ∈ (deltaR d).2.2.1, opBd o := by
  unfold deltaR
  split
  · split
    · simp
    · rename_i hp
      exact parseR_bd _ _ _ (Nat.le_refl _) hp
  · simp
end Go.Proofs.Ytpfjkappgdpfbaa
