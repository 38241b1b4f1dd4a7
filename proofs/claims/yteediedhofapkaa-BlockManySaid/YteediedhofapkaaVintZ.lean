/- Numbers that were put are taken: the plain law, for the layers that have no lengths of the protocol. -/
import Derived.Test.YteediedhofapkaaVintG
namespace Go.Proofs.Yteediedhofapkaa
open Go.RowKit
set_option linter.unusedVariables false
set_option linter.unusedSimpArgs false

theorem bAt_0 (x : UInt8) (l : List UInt8) : bAt (x :: l) 0 = x.toNat := rfl
theorem bAt_s (x : UInt8) (l : List UInt8) (k : Nat) : bAt (x :: l) (k + 1) = bAt l k := rfl
theorem toNat_low (m : Nat) : (UInt8.ofNat (m % 128 + 128)).toNat = m % 128 + 128 := by rw [UInt8.toNat_ofNat']; omega
theorem toNat_small {m : Nat} (h : m < 256) : (UInt8.ofNat m).toNat = m := by rw [UInt8.toNat_ofNat']; omega
theorem pow128_zero {n : Nat} (h : n < 128 ^ 0) : n = 0 := by simpa using h
theorem pow128_div {n f : Nat} (h : n < 128 ^ (f + 1)) : n / 128 < 128 ^ f := by
  rw [Nat.pow_succ] at h
  exact Nat.div_lt_of_lt_mul (by rw [Nat.mul_comm]; exact h)
theorem pow128_pos {n f : Nat} (h : n < 128 ^ (f + 1)) (hn : ¬ n < 128) : 1 ≤ f := by
  cases f with
  | zero => simp at h; omega
  | succ f => omega
theorem uvarF_lead : ∀ (f n : Nat) (r : List UInt8), 1 ≤ f → n < 128 ^ f → leadU (uvarF f n ++ r) + 1 = (uvarF f n).length := by
  intro f
  induction f with
  | zero => intro n r h; omega
  | succ f ih =>
    intro n r _ hn
    by_cases hs : n < 128
    · rw [uvarF_small hs]
      have : ¬ 128 ≤ (UInt8.ofNat n).toNat := by rw [toNat_small (by omega)]; omega
      show (if 128 ≤ (UInt8.ofNat n).toNat then leadU r + 1 else 0) + 1 = 1
      rw [if_neg this]
    · rw [uvarF_big hs]
      have h1 : 128 ≤ (UInt8.ofNat (n % 128 + 128)).toNat := by rw [toNat_low]; omega
      have h2 := ih (n / 128) r (pow128_pos hn hs) (pow128_div hn)
      simp only [List.cons_append, leadU, if_pos h1, List.length_cons]
      omega
theorem uvarF_val : ∀ (f n : Nat), n < 128 ^ f → valU (uvarF f n) = n := by
  intro f
  induction f with
  | zero => intro n h; rw [pow128_zero h]; rfl
  | succ f ih =>
    intro n hn
    by_cases hs : n < 128
    · rw [uvarF_small hs]
      simp only [valU, toNat_small (show n < 256 by omega)]
      omega
    · rw [uvarF_big hs]
      simp only [valU, toNat_low, ih (n / 128) (pow128_div hn)]
      omega
theorem uvarF_last_byte : ∀ (f n : Nat) (r : List UInt8), 1 ≤ f → n < 128 ^ f → bAt (uvarF f n ++ r) ((uvarF f n).length - 1) = n / 128 ^ ((uvarF f n).length - 1) ∧ 128 ^ ((uvarF f n).length - 1) ≤ max n 1 := by
  intro f
  induction f with
  | zero => intro n r h; omega
  | succ f ih =>
    intro n r _ hn
    by_cases hs : n < 128
    · rw [uvarF_small hs]
      simp only [List.length_singleton, Nat.sub_self, List.singleton_append, bAt_0, toNat_small (show n < 256 by omega)]
      simp; omega
    · rw [uvarF_big hs]
      obtain ⟨h1, h2⟩ := ih (n / 128) r (pow128_pos hn hs) (pow128_div hn)
      have hp := uvarF_pos (f := f) (n := n / 128) (pow128_pos hn hs)
      obtain ⟨l, hl⟩ : ∃ l, (uvarF f (n / 128)).length = l + 1 := ⟨(uvarF f (n / 128)).length - 1, by omega⟩
      rw [hl, Nat.add_sub_cancel] at h1 h2
      simp only [List.length_cons, hl, Nat.add_sub_cancel, List.cons_append, bAt_s, h1]
      refine ⟨by rw [Nat.pow_succ, Nat.div_div_eq_div_mul, Nat.mul_comm], ?_⟩
      rw [Nat.pow_succ]
      have : max (n / 128) 1 = n / 128 := by omega
      rw [this] at h2
      omega
theorem uvar_pos (g : Nat) : 0 < (uvar g).length := uvarF_pos (by omega)
theorem lt_pow10 {g : Nat} (h : g < 18446744073709551616) : g < 128 ^ 10 := Nat.lt_of_lt_of_le h pow128_10
theorem takeU_uvar {g : Nat} (hg : g < 18446744073709551616) (r : List UInt8) : takeU (uvar g ++ r) = (g, (uvar g).length, 0) := by
  have h1 : leadU (uvar g ++ r) + 1 = (uvar g).length := uvarF_lead 10 g r (by omega) (lt_pow10 hg)
  have h2 := uvar_len g
  obtain ⟨h3, h4⟩ : bAt (uvar g ++ r) ((uvar g).length - 1) = g / 128 ^ ((uvar g).length - 1) ∧ 128 ^ ((uvar g).length - 1) ≤ max g 1 := uvarF_last_byte 10 g r (by omega) (lt_pow10 hg)
  rw [show (uvar g).length - 1 = leadU (uvar g ++ r) from by omega] at h3 h4
  unfold takeU
  rw [if_neg (by rw [List.length_append]; omega), if_neg, h1]
  · rw [List.take_left' rfl]
    show (valU (uvarF 10 g), _, _) = _
    rw [uvarF_val 10 g (lt_pow10 hg)]
  · rintro (h | ⟨h, hb⟩ | ⟨h, hb⟩)
    · omega
    · rw [h3, h] at hb
      have e : (128 : Nat) ^ 9 = 9223372036854775808 := by decide
      rw [e] at hb
      omega
    · rw [h3] at hb
      have hp : 128 ≤ 128 ^ leadU (uvar g ++ r) := by
        have := pow128_le (show 1 ≤ leadU (uvar g ++ r) from h)
        simpa using this
      have : 128 ^ leadU (uvar g ++ r) ≤ g := by omega
      have := Nat.div_pos this (by omega)
      omega
theorem leadU_take : ∀ (l : List UInt8) (i : Nat), i ≤ leadU l → leadU (l.take i) = i := by
  intro l
  induction l with
  | nil => intro i h; simp [leadU] at h; subst h; rfl
  | cons x l ih =>
    intro i h
    cases i with
    | zero => rfl
    | succ i =>
      unfold leadU at h
      split at h
      · rename_i hx
        simp only [List.take_succ_cons, leadU, if_pos hx]
        rw [ih i (by omega)]
      · omega
theorem takeU_cut {g i : Nat} (hg : g < 18446744073709551616) (hi : i < (uvar g).length) : takeU ((uvar g).take i) = (0, 0, 5) := by
  have h1 : leadU (uvar g ++ []) + 1 = (uvar g).length := uvarF_lead 10 g [] (by omega) (lt_pow10 hg)
  rw [List.append_nil] at h1
  unfold takeU
  rw [leadU_take _ _ (by omega), if_pos (by simp; omega)]
theorem readU_from : ∀ (l : List UInt8) (a : Nat), l.foldl (fun a x => a * 256 + x.toNat) a = a * 256 ^ l.length + readU l := by
  intro l
  induction l with
  | nil => intro a; simp [readU]
  | cons x l ih =>
    intro a
    unfold readU
    rw [List.foldl_cons, List.foldl_cons, ih, ih (0 * 256 + x.toNat), List.length_cons, Nat.pow_succ, Nat.add_mul, Nat.zero_mul, Nat.zero_add, ← Nat.add_assoc, Nat.mul_assoc, Nat.mul_comm 256]
theorem readU_cons (x : UInt8) (l : List UInt8) : readU (x :: l) = x.toNat * 256 ^ l.length + readU l := by
  have := readU_from l (0 * 256 + x.toNat)
  rw [Nat.zero_mul, Nat.zero_add] at this
  unfold readU at *
  rw [List.foldl_cons, Nat.zero_mul, Nat.zero_add]
  exact this
theorem fixed_read : ∀ (s n : Nat), readU (fixedU n s) = n % 256 ^ s := by
  intro s
  induction s with
  | zero => intro n; simp [fixedU, readU, Nat.mod_one]
  | succ s ih =>
    intro n
    rw [fixedU, readU_cons, fixedU_len, ih, UInt8.toNat_ofNat', show (2 : Nat) ^ 8 = 256 from rfl, Nat.pow_succ, Nat.mod_mul (a := 256 ^ s), Nat.mul_comm (256 ^ s)]
    omega
end Go.Proofs.Yteediedhofapkaa
