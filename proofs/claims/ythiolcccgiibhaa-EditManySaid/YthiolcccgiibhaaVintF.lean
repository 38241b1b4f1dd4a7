/- What the functions of layer 2 answer: Fixed and Read. -/
import Derived.Test.YthiolcccgiibhaaVintQ
namespace Go.Proofs.Ythiolcccgiibhaa
open Go.RowKit
set_option linter.unusedVariables false
set_option linter.unusedSimpArgs false

/-! ## Plain -/
/-- The lowest s bytes, the highest first. -/
def fixedU (n : Nat) : Nat → List UInt8
  | 0 => []
  | s + 1 => UInt8.ofNat (n / 256 ^ s) :: fixedU n s
def fixB (n : Nat) (size : Int) : List UInt8 := if size < 1 ∨ 8 < size then [] else fixedU n size.toNat
def readU (l : List UInt8) : Nat := l.foldl (fun a x => a * 256 + x.toNat) 0
def readB (l : List UInt8) (size : Int) : Nat × Nat :=
  if size < 1 ∨ 8 < size then (0, 1) else if (l.length : Int) < size then (0, 5) else (readU (l.take size.toNat), 0)
theorem fixedU_len (n s : Nat) : (fixedU n s).length = s := by
  induction s with
  | zero => rfl
  | succ s ih => simp [fixedU, ih]
theorem fixB_len (n : Nat) (size : Int) : (fixB n size).length ≤ 8 := by
  unfold fixB
  split
  · simp
  · rw [fixedU_len]; omega
theorem readU_snoc (l : List UInt8) (x : UInt8) : readU (l ++ [x]) = readU l * 256 + x.toNat := by simp [readU, List.foldl_append]
theorem readU_lt : ∀ l : List UInt8, readU l < 256 ^ l.length := by
  intro l
  suffices h : ∀ (m : List UInt8), readU m.reverse < 256 ^ m.length by
    have := h l.reverse
    simpa using this
  intro m
  induction m with
  | nil => simp [readU]
  | cons x m ih =>
    rw [List.reverse_cons, readU_snoc, List.length_cons, Nat.pow_succ]
    have := x.toNat_lt
    omega
theorem readU_lt7 {l : List UInt8} (h : l.length ≤ 7) : readU l < 72057594037927936 := Nat.lt_of_lt_of_le (readU_lt l) (Nat.le_trans (Nat.pow_le_pow_right (by omega) h) (by decide))
theorem readU_lt8 {l : List UInt8} (h : l.length ≤ 8) : readU l < 18446744073709551616 := Nat.lt_of_lt_of_le (readU_lt l) (Nat.le_trans (Nat.pow_le_pow_right (by omega) h) (by decide))
theorem readB_lt (l : List UInt8) (size : Int) : (readB l size).1 < 18446744073709551616 ∧ (readB l size).2 ≤ 5 := by
  unfold readB
  split
  · simp
  · split
    · simp
    · exact ⟨readU_lt8 (by simp; omega), by simp⟩
theorem or_shl8 {v x : Nat} (hv : v < 72057594037927936) (hx : x < 256) : bits .or .u64 ((v : Int) * 256) (x : Int) = ((v * 256 + x : Nat) : Int) := by
  have h := u64_or_nat (v * 256) x (by omega) (by omega)
  have e : v * 256 ||| x = v * 256 + x := by
    have := Nat.two_pow_add_eq_or_of_lt (i := 8) (b := x) hx v
    rw [Nat.mul_comm]
    exact this.symm
  rw [e] at h
  rw [show (v : Int) * 256 = ((v * 256 : Nat) : Int) from by omega, h]

/-! ## Read -/
theorem tup2 {k1 k2 : IntKind} {a b a' b' : Int} (h1 : a = a') (h2 : b = b') : Ending.returned (.tuple #[.int k1 a, .int k2 b]) = .returned (.tuple #[.int k1 a', .int k2 b']) := by rw [h1, h2]
end Go.Proofs.Ythiolcccgiibhaa
