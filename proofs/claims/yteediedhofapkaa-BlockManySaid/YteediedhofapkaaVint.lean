/- The numbers of layer 2 as plain functions on lists of bytes. No program in sight. -/
import Derived.Test.YteediedhofapkaaW
namespace Go.Proofs.Yteediedhofapkaa
set_option linter.unusedVariables false
set_option linter.unusedSimpArgs false

/-! ## uvarints -/
def uvarF : Nat → Nat → List UInt8
  | 0, _ => []
  | f + 1, n => if n < 128 then [UInt8.ofNat n] else UInt8.ofNat (n % 128 + 128) :: uvarF f (n / 128)
/-- A uvarint of a number of 64 bits. -/
def uvar (n : Nat) : List UInt8 := uvarF 10 n
theorem uvarF_small {f n : Nat} (h : n < 128) : uvarF (f + 1) n = [UInt8.ofNat n] := by unfold uvarF; rw [if_pos h]
theorem uvarF_big {f n : Nat} (h : ¬ n < 128) : uvarF (f + 1) n = UInt8.ofNat (n % 128 + 128) :: uvarF f (n / 128) := by
  conv => lhs; unfold uvarF
  rw [if_neg h]
theorem uvarF_len (f : Nat) : ∀ n, (uvarF f n).length ≤ f := by
  induction f with
  | zero => intro n; simp [uvarF]
  | succ f ih =>
    intro n
    by_cases h : n < 128
    · rw [uvarF_small h]; simp
    · rw [uvarF_big h]; have := ih (n / 128); simp; omega
theorem uvar_len (n : Nat) : (uvar n).length ≤ 10 := uvarF_len 10 n
theorem uvarF_pos {f n : Nat} (h : 0 < f) : 0 < (uvarF f n).length := by
  obtain ⟨g, rfl⟩ : ∃ g, f = g + 1 := ⟨f - 1, by omega⟩
  by_cases h : n < 128
  · rw [uvarF_small h]; simp
  · rw [uvarF_big h]; simp
/-- How many bytes at the front have the highest bit. -/
def leadU : List UInt8 → Nat
  | [] => 0
  | x :: l => if 128 ≤ x.toNat then leadU l + 1 else 0
def valU : List UInt8 → Nat
  | [] => 0
  | x :: l => x.toNat % 128 + 128 * valU l
/-- The number at the front, how many bytes it has, the error. -/
def takeU (l : List UInt8) : Nat × Nat × Nat :=
  if leadU l = l.length then (0, 0, 5)
  else if 9 < leadU l ∨ (leadU l = 9 ∧ 1 < bAt l (leadU l)) ∨ (0 < leadU l ∧ bAt l (leadU l) = 0) then (0, 0, 3)
  else (valU (l.take (leadU l + 1)), leadU l + 1, 0)
theorem leadU_le : ∀ l : List UInt8, leadU l ≤ l.length := by
  intro l
  induction l with
  | nil => exact Nat.le_refl _
  | cons x l ih => unfold leadU; split <;> simp <;> omega
theorem leadU_eq : ∀ (l : List UInt8) (k : Nat), k ≤ l.length → (∀ j, j < k → 128 ≤ bAt l j) → (k = l.length ∨ bAt l k < 128) → leadU l = k := by
  intro l
  induction l with
  | nil => intro k hk _ _; simp at hk; subst hk; rfl
  | cons x l ih =>
    intro k hk hj he
    unfold leadU
    cases k with
    | zero =>
      rcases he with he | he
      · simp at he
      · have : x.toNat < 128 := by simpa [bAt] using he
        rw [if_neg (by omega)]
    | succ k =>
      have h0 : 128 ≤ x.toNat := by simpa [bAt] using hj 0 (by omega)
      rw [if_pos h0, ih k (by simpa using hk) (fun j hjk => by simpa [bAt] using hj (j + 1) (by omega)) (by
        rcases he with he | he
        · exact .inl (by simpa using he)
        · exact .inr (by simpa [bAt] using he))]
theorem leadU_high : ∀ (l : List UInt8) (j : Nat), j < leadU l → 128 ≤ bAt l j := by
  intro l
  induction l with
  | nil => intro j h; simp [leadU] at h
  | cons x l ih =>
    intro j h
    unfold leadU at h
    split at h
    · cases j with
      | zero => simpa [bAt]
      | succ j => simpa [bAt] using ih j (by omega)
    · omega
theorem leadU_low (l : List UInt8) (h : leadU l < l.length) : bAt l (leadU l) < 128 := by
  induction l with
  | nil => simp at h
  | cons x l ih =>
    unfold leadU at h ⊢
    split
    · rename_i hx
      rw [if_pos hx] at h
      simpa [bAt] using ih (by simpa using h)
    · simp [bAt]; omega
theorem valU_lt : ∀ l : List UInt8, valU l < 128 ^ l.length := by
  intro l
  induction l with
  | nil => simp [valU]
  | cons x l ih =>
    have := Nat.mod_lt x.toNat (show 128 > 0 by omega)
    simp only [valU, List.length_cons, Nat.pow_succ]
    omega
theorem valU_append : ∀ l m : List UInt8, valU (l ++ m) = valU l + 128 ^ l.length * valU m := by
  intro l
  induction l with
  | nil => intro m; simp [valU]
  | cons x l ih =>
    intro m
    simp only [List.cons_append, valU, ih, List.length_cons, Nat.pow_succ]
    rw [Nat.mul_add, ← Nat.mul_assoc, Nat.mul_comm 128 (128 ^ l.length)]
    omega
/-- What has been gathered from the last byte down to byte j. -/
def partU (l : List UInt8) (k j : Nat) : Nat := valU ((l.take (k + 1)).drop j)
theorem partU_end (l : List UInt8) (k : Nat) : partU l k (k + 1) = 0 := by
  unfold partU
  rw [List.drop_eq_nil_of_le (by simp; omega)]
  rfl
theorem partU_step (l : List UInt8) (k j : Nat) (hj : j ≤ k) (hk : k < l.length) : partU l k j = bAt l j % 128 + 128 * partU l k (j + 1) := by
  unfold partU
  rw [List.drop_eq_getElem_cons (by simp; omega)]
  simp only [valU, List.getElem_take]
  rw [bAt_get (by omega)]
theorem partU_zero (l : List UInt8) (k : Nat) : partU l k 0 = valU (l.take (k + 1)) := by simp [partU]
theorem pow128_le {a b : Nat} (h : a ≤ b) : 128 ^ a ≤ 128 ^ b := Nat.pow_le_pow_right (by omega) h
/-- A number that may be keeps within 64 bits all the way. -/
theorem partU_lt (l : List UInt8) (k j : Nat) (hk : k < l.length) (h9 : k ≤ 9) (ht : k = 9 → bAt l k ≤ 1) (hj : 1 ≤ j) (hjk : j ≤ k + 1) : partU l k j < 144115188075855872 := by
  by_cases h : k < 9
  · have h1 := valU_lt ((l.take (k + 1)).drop j)
    have h2 : ((l.take (k + 1)).drop j).length ≤ 8 := by simp; omega
    exact Nat.lt_of_lt_of_le h1 (Nat.le_trans (pow128_le h2) (by decide))
  · obtain rfl : k = 9 := by omega
    by_cases hj10 : j = 10
    · subst hj10; rw [partU_end]; omega
    · have e : (l.take 10).drop j = (l.take 9).drop j ++ [l[9]] := by
        rw [List.take_succ_eq_append_getElem hk, List.drop_append_of_le_length (by simp; omega)]
      have hb : (l[9]).toNat ≤ 1 := by rw [← bAt_get hk]; exact ht rfl
      unfold partU
      rw [e, valU_append]
      have h1 := valU_lt ((l.take 9).drop j)
      have hlen : ((l.take 9).drop j).length ≤ 8 := by simp; omega
      have h2 := pow128_le hlen
      have h3 : valU [l[9]] ≤ 1 := by simp [valU]; omega
      have h4 : 128 ^ ((l.take 9).drop j).length * valU [l[9]] ≤ 128 ^ 8 * 1 := Nat.mul_le_mul h2 h3
      have e8 : (128 : Nat) ^ 8 = 72057594037927936 := by decide
      omega
theorem partU_lt64 (l : List UInt8) (k : Nat) (hk : k < l.length) (h9 : k ≤ 9) (ht : k = 9 → bAt l k ≤ 1) : partU l k 0 < 18446744073709551616 := by
  rw [partU_step l k 0 (by omega) hk, Nat.zero_add]
  have := partU_lt l k 1 hk h9 ht (by omega) (by omega)
  omega
theorem takeU_lt (l : List UInt8) : (takeU l).1 < 18446744073709551616 ∧ (takeU l).2.1 ≤ l.length ∧ (takeU l).2.1 ≤ 10 ∧ (takeU l).2.2 ≤ 5 := by
  have hl := leadU_le l
  unfold takeU
  split
  · simp
  · split
    · simp
    · rename_i h1 h2
      have := partU_lt64 l (leadU l) (by omega) (by omega) (by omega)
      rw [partU_zero] at this
      exact ⟨this, by simp; omega, by simp; omega, by simp⟩
end Go.Proofs.Yteediedhofapkaa
