/- Layer 10: what a filter holds: the plain law. -/
import Derived.Test.YtkcfnehfdmlhiaaBlM
namespace Go.Proofs.Ytkcfnehfdmlhiaa
open Go.RowKit
set_option linter.unusedVariables false
set_option linter.unusedSimpArgs false

theorem bitAt_tb (bs : List UInt8) (p : Nat) : bitAt bs p = 1 ↔ Nat.testBit (bAt bs (p / 8)) (p % 8) = true := by
  rw [Nat.testBit_eq_decide_div_mod_eq]
  unfold bitAt
  simp
theorem bAt_set {b : List UInt8} {i : Nat} {y : UInt8} (hi : i < b.length) (j : Nat) : bAt (b.set i y) j = if i = j then y.toNat else bAt b j := by
  unfold bAt
  by_cases h : i = j
  · subst h; simp [hi]
  · simp [List.getElem?_set, h]
theorem setBit_at {b : List UInt8} {p : Nat} (hp : p / 8 < b.length) (q : Nat) : bitAt (setBit b p) q = 1 ↔ bitAt b q = 1 ∨ q = p := by
  rw [bitAt_tb, bitAt_tb]
  unfold setBit
  rw [bAt_set hp]
  have hx := bAt_lt b (p / 8)
  have hp8 : 2 ^ (p % 8) < 256 := Nat.lt_of_le_of_lt (Nat.pow_le_pow_right (by omega) (show p % 8 ≤ 7 by omega)) (by decide)
  have hl : bAt b (p / 8) ||| 2 ^ (p % 8) < 256 := Nat.or_lt_two_pow (n := 8) hx hp8
  by_cases h : p / 8 = q / 8
  · rw [if_pos h, UInt8.toNat_ofNat', Nat.mod_eq_of_lt hl, Nat.testBit_or, Nat.testBit_two_pow, ← h]
    simp only [Bool.or_eq_true, decide_eq_true_eq]
    constructor
    · rintro (h1 | h1)
      · exact .inl h1
      · exact .inr (by omega)
    · rintro (h1 | h1)
      · exact .inl h1
      · exact .inr (by omega)
  · rw [if_neg h]
    constructor
    · exact .inl
    · rintro (h1 | h1)
      · exact h1
      · exact absurd (by rw [h1]) h
theorem addUpto_bit {b : List UInt8} {M h : Nat} (hM : M = 8 * b.length) (hM0 : 0 < M) (q : Nat) : ∀ j, bitAt (addUpto b M h j) q = 1 ↔ bitAt b q = 1 ∨ ∃ i, i < j ∧ place h M i = q := by
  intro j
  induction j with
  | zero =>
    constructor
    · exact .inl
    · rintro (h1 | ⟨i, hi, _⟩)
      · exact h1
      · omega
  | succ j ih =>
    have hpl := place_lt (h := h) j hM0
    rw [addUpto, setBit_at (by rw [addUpto_len]; omega), ih]
    constructor
    · rintro ((h1 | ⟨i, hi, h2⟩) | h1)
      · exact .inl h1
      · exact .inr ⟨i, by omega, h2⟩
      · exact .inr ⟨j, by omega, h1.symm⟩
    · rintro (h1 | ⟨i, hi, h2⟩)
      · exact .inl (.inl h1)
      · by_cases hij : i = j
        · subst hij; exact .inr h2.symm
        · exact .inl (.inr ⟨i, by omega, h2⟩)
theorem fillUpto_bit {xss : List (List UInt8)} {S : Nat} (hS : 0 < S) (q : Nat) : ∀ k, bitAt (fillUpto xss (8 * S) S k) q = 1 ↔ ∃ i j, i < k ∧ j < 6 ∧ place (hashN (elt [] xss i)) (8 * S) j = q := by
  intro k
  induction k with
  | zero =>
    constructor
    · intro h
      have h0 : bAt (List.replicate S (0 : UInt8)) (q / 8) = 0 := by
        unfold bAt
        by_cases hq : q / 8 < S <;> simp [List.getElem?_replicate, hq]
      simp only [fillUpto, bitAt, h0, Nat.zero_div] at h
      omega
    · rintro ⟨i, _, hi, _⟩
      omega
  | succ k ih =>
    rw [fillUpto, addKey, addUpto_bit (by rw [fillUpto_len]) (by omega), ih]
    constructor
    · rintro (⟨i, j, hi, hj, h1⟩ | ⟨j, hj, h1⟩)
      · exact ⟨i, j, by omega, hj, h1⟩
      · exact ⟨k, j, by omega, hj, h1⟩
    · rintro ⟨i, j, hi, hj, h1⟩
      by_cases hik : i = k
      · subst hik; exact .inr ⟨j, hj, h1⟩
      · exact .inl ⟨i, j, by omega, hj, h1⟩
theorem bytes_ext {a b : List UInt8} (hl : a.length = b.length) (h : ∀ i, bAt a i = bAt b i) : a = b := by
  apply List.ext_getElem hl
  intro i h1 h2
  have := h i
  rw [bAt_get h1, bAt_get h2] at this
  exact UInt8.toNat_inj.1 this
theorem bits_ext {a b : List UInt8} (hl : a.length = b.length) (h : ∀ q, bitAt a q = 1 ↔ bitAt b q = 1) : a = b := by
  apply bytes_ext hl
  intro i
  apply Nat.eq_of_testBit_eq
  intro t
  by_cases ht : t < 8
  · have := h (8 * i + t)
    rw [bitAt_tb, bitAt_tb, show (8 * i + t) / 8 = i by omega, show (8 * i + t) % 8 = t by omega] at this
    exact Bool.eq_iff_iff.2 this
  · have h2 : 256 ≤ 2 ^ t := by
      have := Nat.pow_le_pow_right (show 0 < 2 by omega) (show 8 ≤ t by omega)
      exact this
    rw [Nat.testBit_lt_two_pow (Nat.lt_of_lt_of_le (bAt_lt a i) h2), Nat.testBit_lt_two_pow (Nat.lt_of_lt_of_le (bAt_lt b i) h2)]
theorem sizeF_pos (n : Nat) : 8 ≤ sizeF n := by unfold sizeF; split <;> omega
theorem sizeF_mono {n m : Nat} (h : n ≤ m) : sizeF n ≤ sizeF m := by unfold sizeF; split <;> split <;> omega
/-- The order of the keys makes no difference. -/
theorem filterB_same {xss yss : List (List UInt8)} (hl : xss.length = yss.length) (h1 : ∀ i, i < xss.length → ∃ j, j < xss.length ∧ elt [] yss j = elt [] xss i) (h2 : ∀ i, i < xss.length → ∃ j, j < xss.length ∧ elt [] xss j = elt [] yss i) : filterB xss = filterB yss := by
  apply bits_ext (by rw [filterB_len, filterB_len, hl])
  intro q
  have hS := sizeF_pos yss.length
  unfold filterB
  rw [hl, fillUpto_bit (by omega), fillUpto_bit (by omega)]
  constructor
  · rintro ⟨i, j, hi, hj, e⟩
    obtain ⟨i', hi', e'⟩ := h1 i (by omega)
    exact ⟨i', j, by omega, hj, by rw [e']; exact e⟩
  · rintro ⟨i, j, hi, hj, e⟩
    obtain ⟨i', hi', e'⟩ := h2 i (by omega)
    exact ⟨i', j, by omega, hj, by rw [e']; exact e⟩
/-- What was put in is never missed. -/
theorem hasB_in {xss : List (List UInt8)} {k : List UInt8} {i : Nat} (hi : i < xss.length) (e : elt [] xss i = k) : hasB (filterB xss) k = true := by
  unfold hasB
  split
  · rfl
  · rw [List.all_eq_true]
    intro j hj
    have hj6 : j < 6 := by simpa using hj
    have hS := sizeF_pos xss.length
    rw [filterB_len, beq_iff_eq]
    unfold filterB
    rw [fillUpto_bit (by omega)]
    exact ⟨i, j, hi, hj6, by rw [e]⟩
end Go.Proofs.Ytkcfnehfdmlhiaa
