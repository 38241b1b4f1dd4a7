/- Layer 8: bytes that are cut off are no batch: the plain law, change by change. -/
import Derived.Test.YtdhmonomhifkkaaBaZ
namespace Go.Proofs.Ytdhmonomhifkkaa
open Go.RowKit
set_option linter.unusedVariables false
set_option linter.unusedSimpArgs false

theorem numR_err {most : Nat} {xs : List UInt8} {er : Nat} (h : er ≠ 0) : numR most xs er = (0, xs, er) := by unfold numR; rw [if_pos h]
theorem goneR_err {xs : List UInt8} {er : Nat} (h : er ≠ 0) : goneR xs er = (false, xs, er) := by unfold goneR; rw [if_pos h]
theorem bytesR_err {most : Int} {xs : List UInt8} {er : Nat} (h : er ≠ 0) : bytesR most xs er = ([], xs, er) := by unfold bytesR; rw [if_pos h]
theorem oneR_err {xs : List UInt8} {er : Nat} (h : er ≠ 0) : (oneR xs er).2.2 = er := by
  unfold oneR
  simp only [goneR_err h, bytesR_err h, numR_err h, Bool.false_eq_true, if_false]
theorem numR_cut {g i most : Nat} (hg : g < 18446744073709551616) (hi : i < (uvar g).length) : (numR most ((uvar g).take i) 0).2.2 ≠ 0 := by
  unfold numR
  rw [takeU_cut hg hi]
  simp
theorem bytesR_cut {s : List UInt8} {i : Nat} {most : Int} (hs : s.length < 18446744073709551616) (hi : i < (uvar s.length ++ s).length) : (bytesR most ((uvar s.length ++ s).take i) 0).2.2 ≠ 0 := by
  unfold bytesR
  rw [if_neg (by omega)]
  show (takeB _ most).2.2 ≠ 0
  unfold takeB
  by_cases h : i < (uvar s.length).length
  · rw [List.take_append_of_le_length (by omega), takeU_cut hs h]
    simp
  · rw [List.take_append, List.take_of_length_le (by omega), takeU_uvar hs]
    simp only [ne_eq, not_true_eq_false, if_false]
    split
    · decide
    · rw [if_pos ?_]
      · decide
      · simp only [List.length_append, List.length_take] at hi ⊢
        omega
theorem take_app {a b : List UInt8} {i : Nat} (h : i < (a ++ b).length) : (i < a.length ∧ (a ++ b).take i = a.take i) ∨ (∃ j, j < b.length ∧ (a ++ b).take i = a ++ b.take j) := by
  by_cases h1 : i < a.length
  · exact .inl ⟨h1, List.take_append_of_le_length (by omega)⟩
  · refine .inr ⟨i - a.length, by rw [List.length_append] at h; omega, ?_⟩
    rw [List.take_append, List.take_of_length_le (by omega)]
theorem goneR_head {x : UInt8} {xs : List UInt8} (h : x.toNat ≤ 1) : goneR (x :: xs) 0 = (decide (x.toNat = 1), xs, 0) := by
  unfold goneR
  have e : bAt (x :: xs) 0 = x.toNat := rfl
  rw [if_neg (by omega), if_neg (by simp), if_neg (by rw [e]; omega), e]
  rfl
theorem oneR_cut {o : OpR} (h : opE o = 0) {i : Nat} (hi : i < (opB o).length) : (oneR ((opB o).take i) 0).2.2 ≠ 0 := by
  obtain ⟨h1, h2, h3, h4, h5, h6⟩ := opE_zero h
  rcases Nat.eq_zero_or_pos i with h0 | h0
  · subst h0
    have e : goneR [] 0 = (false, [], 5) := by decide
    rw [List.take_zero]
    unfold oneR
    simp only [e, bytesR_err (show (5 : Nat) ≠ 0 by decide), numR_err (show (5 : Nat) ≠ 0 by decide), Bool.false_eq_true, if_false]
    decide
  obtain ⟨j, rfl⟩ : ∃ j, i = j + 1 := ⟨i - 1, by omega⟩
  cases hg : opGone o with
  | true =>
    have e : opB o = 1 :: (uvar (opKey o).length ++ opKey o) := by simp [opB, opS, hg]
    rw [e] at hi ⊢
    rw [List.take_succ_cons]
    have hj : j < (uvar (opKey o).length ++ opKey o).length := by simpa using hi
    unfold oneR
    simp only [goneR_head (show (1 : UInt8).toNat ≤ 1 by decide), show (decide ((1 : UInt8).toNat = 1)) = true from rfl, if_true]
    exact bytesR_cut (by omega) hj
  | false =>
    have e : opB o = 0 :: ((uvar (opKey o).length ++ opKey o) ++ (uvar (opTil o).toNat ++ (uvar (opVal o).length ++ opVal o))) := by simp [opB, opS, hg]
    rw [e] at hi ⊢
    rw [List.take_succ_cons]
    have hj : j < ((uvar (opKey o).length ++ opKey o) ++ (uvar (opTil o).toNat ++ (uvar (opVal o).length ++ opVal o))).length := by simpa using hi
    unfold oneR
    simp only [goneR_head (show (0 : UInt8).toNat ≤ 1 by decide), show (decide ((0 : UInt8).toNat = 1)) = false from rfl, Bool.false_eq_true, if_false]
    rcases take_app hj with ⟨hj1, e1⟩ | ⟨j1, hj1, e1⟩
    · rw [e1]
      have hc := bytesR_cut (most := 512) (by omega) hj1
      rw [numR_err hc, bytesR_err hc]
      exact hc
    · rw [e1, List.append_assoc, bytesR_put (opKey o) _ 512 (by omega) (by omega)]
      simp only
      rcases take_app hj1 with ⟨hj2, e2⟩ | ⟨j2, hj2, e2⟩
      · rw [e2]
        have hc := numR_cut (most := 4611686018427387904) (show (opTil o).toNat < 18446744073709551616 by omega) hj2
        rw [bytesR_err hc]
        exact hc
      · rw [e2, numR_uvar (by omega) (by omega)]
        exact bytesR_cut (by omega) hj2
end Go.Proofs.Ytdhmonomhifkkaa
