/- Layer 2: what was written is read again: the plain law. -/
import Derived.Test.YtbjpbnflioiccaaVintI
namespace Go.Proofs.Ytbjpbnflioiccaa
open Go.RowKit
set_option linter.unusedVariables false
set_option linter.unusedSimpArgs false

theorem pow128_zero {n : Nat} (h : n < 128 ^ 0) : n = 0 := by simpa using h
theorem pow128_div {n f : Nat} (h : n < 128 ^ (f + 1)) : n / 128 < 128 ^ f := by
  rw [Nat.pow_succ] at h
  exact Nat.div_lt_of_lt_mul (by rw [Nat.mul_comm]; exact h)
theorem pow128_pos {n f : Nat} (h : n < 128 ^ (f + 1)) (hn : ¬ n < 128) : 1 ≤ f := by
  cases f with
  | zero => simp at h; omega
  | succ f => omega
theorem uvarF_fuel : ∀ (f f' n : Nat), 1 ≤ f → 1 ≤ f' → n < 128 ^ f → n < 128 ^ f' → uvarF f n = uvarF f' n := by
  intro f
  induction f with
  | zero => intro f' n h; omega
  | succ f ih =>
    intro f' n _ h' hn hn'
    obtain ⟨g, rfl⟩ : ∃ g, f' = g + 1 := ⟨f' - 1, by omega⟩
    by_cases hs : n < 128
    · rw [uvarF_small hs, uvarF_small hs]
    · rw [uvarF_big hs, uvarF_big hs, ih g (n / 128) (pow128_pos hn hs) (pow128_pos hn' hs) (pow128_div hn) (pow128_div hn')]
theorem uvarF_lead : ∀ (f n : Nat) (r : List UInt8), 1 ≤ f → n < 128 ^ f → leadU (uvarF f n ++ r) + 1 = (uvarF f n).length := by
  intro f
  induction f with
  | zero => intro n r h; omega
  | succ f ih =>
    intro n r _ hn
    by_cases hs : n < 128
    · rw [uvarF_small hs]
      have : ¬ 128 ≤ (UInt8.ofNat n).toNat := by rw [toNat_small (by omega)]; omega
      show (if 128 ≤ (UInt8.ofNat n).toNat then leadU r + 1 else 0) + 1 = 1
      rw [if_neg this]
    · rw [uvarF_big hs]
      have h1 : 128 ≤ (UInt8.ofNat (n % 128 + 128)).toNat := by rw [toNat_low]; omega
      have h2 := ih (n / 128) r (pow128_pos hn hs) (pow128_div hn)
      simp only [List.cons_append, leadU, if_pos h1, List.length_cons]
      omega
theorem uvarF_val : ∀ (f n : Nat), n < 128 ^ f → valU (uvarF f n) = n := by
  intro f
  induction f with
  | zero => intro n h; rw [pow128_zero h]; rfl
  | succ f ih =>
    intro n hn
    by_cases hs : n < 128
    · rw [uvarF_small hs]
      simp only [valU, toNat_small (show n < 256 by omega)]
      omega
    · rw [uvarF_big hs]
      simp only [valU, toNat_low, ih (n / 128) (pow128_div hn)]
      omega
theorem uvarF_last_byte : ∀ (f n : Nat) (r : List UInt8), 1 ≤ f → n < 128 ^ f → bAt (uvarF f n ++ r) ((uvarF f n).length - 1) = n / 128 ^ ((uvarF f n).length - 1) ∧ 128 ^ ((uvarF f n).length - 1) ≤ max n 1 := by
  intro f
  induction f with
  | zero => intro n r h; omega
  | succ f ih =>
    intro n r _ hn
    by_cases hs : n < 128
    · rw [uvarF_small hs]
      simp only [List.length_singleton, Nat.sub_self, List.singleton_append, bAt_0, toNat_small (show n < 256 by omega)]
      simp; omega
    · rw [uvarF_big hs]
      obtain ⟨h1, h2⟩ := ih (n / 128) r (pow128_pos hn hs) (pow128_div hn)
      have hp := uvarF_pos (f := f) (n := n / 128) (pow128_pos hn hs)
      obtain ⟨l, hl⟩ : ∃ l, (uvarF f (n / 128)).length = l + 1 := ⟨(uvarF f (n / 128)).length - 1, by omega⟩
      rw [hl, Nat.add_sub_cancel] at h1 h2
      simp only [List.length_cons, hl, Nat.add_sub_cancel, List.cons_append, bAt_s, h1]
      refine ⟨by rw [Nat.pow_succ, Nat.div_div_eq_div_mul, Nat.mul_comm], ?_⟩
      rw [Nat.pow_succ]
      have : max (n / 128) 1 = n / 128 := by omega
      rw [this] at h2
      omega
theorem uvar_pos (g : Nat) : 0 < (uvar g).length := uvarF_pos (by omega)
theorem lt_pow10 {g : Nat} (h : g < 18446744073709551616) : g < 128 ^ 10 := Nat.lt_of_lt_of_le h pow128_10
/-- A number that was put is taken. -/
theorem takeU_uvar {g : Nat} (hg : g < 18446744073709551616) (r : List UInt8) : takeU (uvar g ++ r) = (g, (uvar g).length, 0) := by
  have h1 : leadU (uvar g ++ r) + 1 = (uvar g).length := uvarF_lead 10 g r (by omega) (lt_pow10 hg)
  have h2 := uvar_len g
  obtain ⟨h3, h4⟩ : bAt (uvar g ++ r) ((uvar g).length - 1) = g / 128 ^ ((uvar g).length - 1) ∧ 128 ^ ((uvar g).length - 1) ≤ max g 1 := uvarF_last_byte 10 g r (by omega) (lt_pow10 hg)
  rw [show (uvar g).length - 1 = leadU (uvar g ++ r) from by omega] at h3 h4
  unfold takeU
  rw [if_neg (by rw [List.length_append]; omega), if_neg, h1]
  · rw [List.take_left' rfl]
    show (valU (uvarF 10 g), _, _) = _
    rw [uvarF_val 10 g (lt_pow10 hg)]
  · rintro (h | ⟨h, hb⟩ | ⟨h, hb⟩)
    · omega
    · rw [h3, h] at hb
      have e : (128 : Nat) ^ 9 = 9223372036854775808 := by decide
      rw [e] at hb
      omega
    · rw [h3] at hb
      have hp : 128 ≤ 128 ^ leadU (uvar g ++ r) := by
        have := pow128_le (show 1 ≤ leadU (uvar g ++ r) from h)
        simpa using this
      have : 128 ^ leadU (uvar g ++ r) ≤ g := by omega
      have := Nat.div_pos this (by omega)
      omega
theorem leadU_take : ∀ (l : List UInt8) (i : Nat), i ≤ leadU l → leadU (l.take i) = i := by
  intro l
  induction l with
  | nil => intro i h; simp [leadU] at h; subst h; rfl
  | cons x l ih =>
    intro i h
    cases i with
    | zero => rfl
    | succ i =>
      unfold leadU at h
      split at h
      · rename_i hx
        simp only [List.take_succ_cons, leadU, if_pos hx]
        rw [ih i (by omega)]
      · omega
/-- Cut off it is short. -/
theorem takeU_cut {g i : Nat} (hg : g < 18446744073709551616) (hi : i < (uvar g).length) : takeU ((uvar g).take i) = (0, 0, 5) := by
  have h1 : leadU (uvar g ++ []) + 1 = (uvar g).length := uvarF_lead 10 g [] (by omega) (lt_pow10 hg)
  rw [List.append_nil] at h1
  unfold takeU
  rw [leadU_take _ _ (by omega), if_pos (by simp; omega)]
theorem takeLF_uvar : ∀ (f k v m : Nat) (pre r : List UInt8), pre.length = k → m < 128 ^ f → 1 ≤ f → takeLF f k v (pre ++ (uvarF f m ++ r)) = (v + m * 128 ^ k, k + (uvarF f m).length, 0) := by
  intro f
  induction f with
  | zero => intro k v m pre r _ _ h; omega
  | succ f ih =>
    intro k v m pre r hk hm _
    by_cases hs : m < 128
    · have hb : bAt (pre ++ (uvarF (f + 1) m ++ r)) k = m := by
        subst hk
        rw [uvarF_small hs]
        unfold bAt
        simp [toNat_small (show m < 256 by omega)]
      rw [takeLF_last (by rw [uvarF_small hs]; simp; omega) (by omega), hb, uvarF_small hs]
      rfl
    · have hb : bAt (pre ++ (uvarF (f + 1) m ++ r)) k = m % 128 + 128 := by
        subst hk
        rw [uvarF_big hs]
        unfold bAt
        simp
        omega
      rw [takeLF_more (by rw [uvarF_big hs]; simp; omega) (by omega), hb, uvarF_big hs]
      have e : pre ++ (UInt8.ofNat (m % 128 + 128) :: uvarF f (m / 128) ++ r) = (pre ++ [UInt8.ofNat (m % 128 + 128)]) ++ (uvarF f (m / 128) ++ r) := by simp
      rw [e, ih (k + 1) _ (m / 128) _ r (by simp; omega) (pow128_div hm) (pow128_pos hm hs)]
      have e2 : v + (m % 128 + 128) % 128 * 128 ^ k + m / 128 * 128 ^ (k + 1) = v + m * 128 ^ k := by
        rw [Nat.pow_succ, show (m % 128 + 128) % 128 = m % 128 from by omega, Nat.add_assoc, Nat.mul_comm (128 ^ k) 128, ← Nat.mul_assoc, ← Nat.add_mul]
        congr 2
        omega
      rw [e2, List.length_cons]
      congr 2
      omega
theorem takeLF_cut : ∀ (f k v m : Nat) (pre : List UInt8) (i : Nat), pre.length = k → m < 128 ^ f → 1 ≤ f → i < (uvarF f m).length → takeLF f k v (pre ++ (uvarF f m).take i) = (0, 0, 5) := by
  intro f
  induction f with
  | zero => intro k v m pre i _ _ h; omega
  | succ f ih =>
    intro k v m pre i hk hm _ hi
    cases i with
    | zero => rw [takeLF_short (by simp; omega)]
    | succ i =>
      by_cases hs : m < 128
      · rw [uvarF_small hs] at hi; simp at hi
      · rw [uvarF_big hs] at hi ⊢
        rw [List.length_cons] at hi
        have hb : bAt (pre ++ (UInt8.ofNat (m % 128 + 128) :: uvarF f (m / 128)).take (i + 1)) k = m % 128 + 128 := by
          subst hk
          unfold bAt
          simp
          omega
        rw [takeLF_more (by simp; omega) (by omega)]
        have e : pre ++ (UInt8.ofNat (m % 128 + 128) :: uvarF f (m / 128)).take (i + 1) = (pre ++ [UInt8.ofNat (m % 128 + 128)]) ++ (uvarF f (m / 128)).take i := by simp
        rw [e]
        exact ih (k + 1) _ (m / 128) _ i (by simp; omega) (pow128_div hm) (pow128_pos hm hs) (by omega)
theorem uvar_four {g : Nat} (hg : g < 268435456) : uvar g = uvarF 4 g := uvarF_fuel 10 4 g (by omega) (by omega) (lt_pow10 (by omega)) (Nat.lt_of_lt_of_le hg (by decide))
theorem takeL_uvar {g : Nat} (hg : g < 268435456) (r : List UInt8) : takeL (uvar g ++ r) = (g, (uvar g).length, 0) := by
  rw [uvar_four hg]
  have := takeLF_uvar 4 0 0 g [] r rfl (Nat.lt_of_lt_of_le hg (by decide)) (by omega)
  simpa [takeL] using this
theorem takeL_cut {g i : Nat} (hg : g < 268435456) (hi : i < (uvar g).length) : takeL ((uvar g).take i) = (0, 0, 5) := by
  rw [uvar_four hg] at hi ⊢
  exact takeLF_cut 4 0 0 g [] i rfl (Nat.lt_of_lt_of_le hg (by decide)) (by omega) hi
/-- Bytes that were put are taken. -/
theorem takeB_put (s r : List UInt8) (most : Int) (hs : s.length < 18446744073709551616) (hm : (s.length : Int) ≤ most) : takeB (uvar s.length ++ (s ++ r)) most = (s, (uvar s.length).length + s.length, 0) := by
  unfold takeB
  rw [takeU_uvar hs]
  rw [if_neg (by simp), if_neg (by simp only []; omega), if_neg (by simp only [List.length_append]; omega)]
  simp only [List.drop_left' rfl, List.take_left' rfl]
/-! ## Lengths -/
theorem uvarF_mono : ∀ (f a b : Nat), a ≤ b → (uvarF f a).length ≤ (uvarF f b).length := by
  intro f
  induction f with
  | zero => intro a b _; exact Nat.le_refl _
  | succ f ih =>
    intro a b h
    by_cases hb : b < 128
    · rw [uvarF_small hb, uvarF_small (by omega)]; exact Nat.le_refl _
    · rw [uvarF_big hb]
      by_cases ha : a < 128
      · rw [uvarF_small ha]; simp
      · rw [uvarF_big ha]
        have := ih (a / 128) (b / 128) (by omega)
        simp only [List.length_cons]
        omega
theorem uvar_mono {a b : Nat} (h : a ≤ b) : (uvar a).length ≤ (uvar b).length := uvarF_mono 10 a b h
theorem uvar_one {a : Nat} (h : a < 128) : (uvar a).length = 1 := by rw [uvar_1 h]; rfl
theorem uvar_two {a : Nat} (h : ¬ a < 128) : 2 ≤ (uvar a).length := by
  unfold uvar
  rw [uvarF_big h, List.length_cons]
  have := uvarF_pos (f := 9) (n := a / 128) (by omega)
  omega
theorem readU_from : ∀ (l : List UInt8) (a : Nat), l.foldl (fun a x => a * 256 + x.toNat) a = a * 256 ^ l.length + readU l := by
  intro l
  induction l with
  | nil => intro a; simp [readU]
  | cons x l ih =>
    intro a
    unfold readU
    rw [List.foldl_cons, List.foldl_cons, ih, ih (0 * 256 + x.toNat), List.length_cons, Nat.pow_succ, Nat.add_mul, Nat.zero_mul, Nat.zero_add, ← Nat.add_assoc, Nat.mul_assoc, Nat.mul_comm 256]
theorem readU_cons (x : UInt8) (l : List UInt8) : readU (x :: l) = x.toNat * 256 ^ l.length + readU l := by
  have := readU_from l (0 * 256 + x.toNat)
  rw [Nat.zero_mul, Nat.zero_add] at this
  unfold readU at *
  rw [List.foldl_cons, Nat.zero_mul, Nat.zero_add]
  exact this
theorem fixed_read : ∀ (s n : Nat), readU (fixedU n s) = n % 256 ^ s := by
  intro s
  induction s with
  | zero => intro n; simp [fixedU, readU, Nat.mod_one]
  | succ s ih =>
    intro n
    rw [fixedU, readU_cons, fixedU_len, ih, UInt8.toNat_ofNat', show (2 : Nat) ^ 8 = 256 from rfl, Nat.pow_succ, Nat.mod_mul (a := 256 ^ s), Nat.mul_comm (256 ^ s)]
    omega
end Go.Proofs.Ytbjpbnflioiccaa
