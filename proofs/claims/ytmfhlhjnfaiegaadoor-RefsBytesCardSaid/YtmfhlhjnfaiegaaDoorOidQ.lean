/- The order of names is that of their texts; a text that is turned tells another name or none. No condition. -/
import Derived.Test.YtmfhlhjnfaiegaaDoorOidP
namespace Go.Proofs.YtmfhlhjnfaiegaaDoor
open Go.RowKit
set_option maxRecDepth 100000
set_option linter.unusedVariables false
theorem hexd_ord : ∀ n < 16, ∀ m < 16, ((hexd n < hexd m) ↔ n < m) ∧ ((hexd n = hexd m) ↔ n = m) := by decide +kernel
theorem hexd_dig (c : UInt8) : 0 ≤ dig c → hexd (dig c).toNat = c := by
  revert c
  refine u8_all ?_
  decide +kernel
theorem hexs_cons (x : UInt8) (a : List UInt8) : hexs (x :: a) = hexd (x.toNat / 16) :: hexd (x.toNat % 16) :: hexs a := by simp [hexs]
theorem hexs_less : ∀ (a b : List UInt8), a.length = b.length → Op.bytesLess (hexs a) (hexs b) = decide (Lib.compareBytes a b < 0)
  | [], [], _ => by simp [hexs, Op.bytesLess, Lib.compareBytes]
  | [], _ :: _, h => by simp at h
  | _ :: _, [], h => by simp at h
  | x :: a, y :: b, h => by
    have ih := hexs_less a b (by simpa using h)
    have hx := x.toNat_lt
    have hy := y.toNat_lt
    obtain ⟨p1, p2⟩ := hexd_ord (x.toNat / 16) (by omega) (y.toNat / 16) (by omega)
    obtain ⟨q1, q2⟩ := hexd_ord (x.toNat % 16) (by omega) (y.toNat % 16) (by omega)
    have l1 : x < y ↔ x.toNat < y.toNat := Iff.rfl
    have l2 : y < x ↔ y.toNat < x.toNat := Iff.rfl
    rw [hexs_cons, hexs_cons, Op.bytesLess, Op.bytesLess, ih, Lib.compareBytes]
    rcases Nat.lt_trichotomy x.toNat y.toNat with hlt | heq | hgt
    · rw [if_pos (l1.2 hlt)]
      rcases Nat.lt_or_ge (x.toNat / 16) (y.toNat / 16) with g | g
      · simp [p1.2 g]
      · have e1 : x.toNat / 16 = y.toNat / 16 := by omega
        have e2 : x.toNat % 16 < y.toNat % 16 := by omega
        simp [p2.2 e1, q1.2 e2]
    · have e : x = y := UInt8.toNat_inj.1 heq
      subst e
      have n1 : ¬ x < x := fun h => by have := l1.1 h; omega
      rw [if_neg n1, if_neg n1]
      simp
    · rw [if_neg (fun h => by have := l1.1 h; omega), if_pos (l2.2 hgt)]
      have n1 : ¬ hexd (x.toNat / 16) < hexd (y.toNat / 16) := fun h => by have := p1.1 h; omega
      have n2 : ¬ (hexd (x.toNat / 16) = hexd (y.toNat / 16) ∧ hexd (x.toNat % 16) < hexd (y.toNat % 16)) := fun ⟨h1, h2⟩ => by
        have := p2.1 h1; have := q1.1 h2; omega
      have n3 : ¬ (hexd (x.toNat / 16) = hexd (y.toNat / 16) ∧ hexd (x.toNat % 16) = hexd (y.toNat % 16)) := fun ⟨h1, h2⟩ => by
        have := p2.1 h1; have := q2.1 h2; omega
      by_cases g : hexd (x.toNat / 16) = hexd (y.toNat / 16)
      · have m2 : ¬ hexd (x.toNat % 16) < hexd (y.toNat % 16) := fun h => n2 ⟨g, h⟩
        have m3 : ¬ hexd (x.toNat % 16) = hexd (y.toNat % 16) := fun h => n3 ⟨g, h⟩
        simp [n1, m2, m3]
      · simp [n1, g]
theorem cmp_three : ∀ (a b : List UInt8), a.length = b.length → (a = b ∧ Lib.compareBytes a b = 0) ∨ (a ≠ b ∧ Lib.compareBytes a b = -1 ∧ Lib.compareBytes b a = 1) ∨ (a ≠ b ∧ Lib.compareBytes a b = 1 ∧ Lib.compareBytes b a = -1)
  | [], [], _ => .inl ⟨rfl, rfl⟩
  | [], _ :: _, h => by simp at h
  | _ :: _, [], h => by simp at h
  | x :: a, y :: b, h => by
    have ih := cmp_three a b (by simpa using h)
    have l1 : x < y ↔ x.toNat < y.toNat := Iff.rfl
    have l2 : y < x ↔ y.toNat < x.toNat := Iff.rfl
    rcases Nat.lt_trichotomy x.toNat y.toNat with hlt | heq | hgt
    · refine .inr (.inl ⟨fun e => ?_, ?_, ?_⟩)
      · injection e with e; subst e; omega
      · rw [Lib.compareBytes, if_pos (l1.2 hlt)]
      · rw [Lib.compareBytes, if_neg (fun h => by have := l2.1 h; omega), if_pos (l1.2 hlt)]
    · have e : x = y := UInt8.toNat_inj.1 heq
      subst e
      have n1 : ¬ x < x := fun h => by have := l1.1 h; omega
      simp only [Lib.compareBytes, if_neg n1]
      rcases ih with ⟨rfl, h⟩ | ⟨h1, h2⟩ | ⟨h1, h2⟩
      · exact .inl ⟨rfl, h⟩
      · exact .inr (.inl ⟨fun e => h1 (by injection e), h2⟩)
      · exact .inr (.inr ⟨fun e => h1 (by injection e), h2⟩)
    · refine .inr (.inr ⟨fun e => ?_, ?_, ?_⟩)
      · injection e with e; subst e; omega
      · rw [Lib.compareBytes, if_neg (fun h => by have := l1.1 h; omega), if_pos (l2.2 hgt)]
      · rw [Lib.compareBytes, if_pos (l2.2 hgt)]
theorem unhex : ∀ (n : Nat) (s : List UInt8), s.length = 2 * n → allHex s → ∃ id : List UInt8, id.length = n ∧ hexs id = s
  | 0, s, h, _ => ⟨[], rfl, by simp at h; subst h; rfl⟩
  | n + 1, [], h, _ => by simp at h
  | n + 1, [_], h, _ => by simp at h; omega
  | n + 1, c :: d :: t, h, hh => by
    obtain ⟨id, h1, h2⟩ := unhex n t (by simp at h; omega) (fun x hx => hh x (by simp [hx]))
    have hc := hh c (by simp)
    have hd := hh d (by simp)
    have lc := dig_lt c
    have ld := dig_lt d
    refine ⟨UInt8.ofNat ((dig c).toNat * 16 + (dig d).toNat) :: id, by simp [h1], ?_⟩
    have e : (UInt8.ofNat ((dig c).toNat * 16 + (dig d).toNat)).toNat = (dig c).toNat * 16 + (dig d).toNat := by
      simp; omega
    rw [hexs_cons, e, h2, show ((dig c).toNat * 16 + (dig d).toNat) / 16 = (dig c).toNat by omega, show ((dig c).toNat * 16 + (dig d).toNat) % 16 = (dig d).toNat by omega, hexd_dig c hc, hexd_dig d hd]
theorem dig_hex (c : UInt8) : 0 ≤ dig c ↔ (48 ≤ c.toNat ∧ c.toNat ≤ 57) ∨ (97 ≤ c.toNat ∧ c.toNat ≤ 102) := by
  unfold dig
  split
  · omega
  · split <;> omega
/-- what a turned text tells -/
theorem turned (a : List UInt8) (ha : a.length = 20) (k : Nat) (hk : k < 40) (c : UInt8) :
    (c = (hexs a).getD k 0 → parseI ((hexs a).set k c) = (a, 0)) ∧
    (c ≠ (hexs a).getD k 0 → (0 ≤ dig c → ∃ p, parseI ((hexs a).set k c) = (p, 0) ∧ p.length = 20 ∧ p ≠ a) ∧ (¬ 0 ≤ dig c → ∃ p, parseI ((hexs a).set k c) = (p, 2) ∧ p.length = 20)) := by
  have hl : (hexs a).length = 40 := by rw [hexs_len, ha]
  have hkl : k < (hexs a).length := by omega
  have hg : (hexs a).getD k 0 = (hexs a)[k] := by rw [List.getD_eq_getElem?_getD, List.getElem?_eq_getElem hkl]; rfl
  have hs : ((hexs a).set k c)[k]'(by simp; exact hkl) = c := by simp
  rw [hg]
  refine ⟨fun e => ?_, fun hne => ⟨fun hd => ?_, fun hd => ?_⟩⟩
  · subst e
    rw [List.set_getElem_self]
    exact parseI_hexs a ha
  · have hh : allHex ((hexs a).set k c) := fun x hx => by
      rcases List.mem_or_eq_of_mem_set hx with h | rfl
      · exact allHex_hexs a x h
      · exact hd
    obtain ⟨id, h1, h2⟩ := unhex 20 ((hexs a).set k c) (by simp [hl]) hh
    refine ⟨id, by rw [← h2, parseI_hexs id h1], h1, fun e => hne ?_⟩
    subst e
    have : ((hexs id).set k c)[k]'(by simp; exact hkl) = (hexs id)[k] := by simp only [← h2]
    rw [hs] at this
    exact this
  · refine ⟨List.replicate 20 0, ?_, by simp⟩
    unfold parseI
    rw [if_neg]
    rintro ⟨_, hh⟩
    exact hd (by have := hh _ (List.getElem_mem (l := (hexs a).set k c) (n := k) (by simp; exact hkl)); rwa [hs] at this)
end Go.Proofs.YtmfhlhjnfaiegaaDoor
