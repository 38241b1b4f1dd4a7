/- Layer 6: records with sums, in plain terms. -/
import Derived.Test.YtkcdjmipmpeedaaVintG
import Derived.Test.YtkcdjmipmpeedaaCrcM
namespace Go.Proofs.Ytkcdjmipmpeedaa
open Go.RowKit
set_option linter.unusedVariables false
set_option linter.unusedSimpArgs false

def frameR (r : List UInt8) : List UInt8 := uvar r.length ++ r
def sumR (xs : List UInt8) : Nat := crcMask (crcMore 0 xs)
def frameB (r : List UInt8) : List UInt8 := fixedU (sumR (frameR r)) 4 ++ frameR r
def ftakeB (xs : List UInt8) : List UInt8 × Nat × Nat :=
  if xs.length < 4 then ([], 0, 5)
  else if (takeU (xs.drop 4)).2.2 ≠ 0 then ([], 0, (takeU (xs.drop 4)).2.2)
  else if 1048576 < (takeU (xs.drop 4)).1 then ([], 0, 2)
  else if xs.length - 4 - (takeU (xs.drop 4)).2.1 < (takeU (xs.drop 4)).1 then ([], 0, 5)
  else if sumR ((xs.drop 4).take ((takeU (xs.drop 4)).2.1 + (takeU (xs.drop 4)).1)) ≠ readU (xs.take 4) then ([], 0, 4)
  else ((xs.drop (4 + (takeU (xs.drop 4)).2.1)).take (takeU (xs.drop 4)).1, 4 + (takeU (xs.drop 4)).2.1 + (takeU (xs.drop 4)).1, 0)
theorem sumR_lt (xs : List UInt8) : sumR xs < 4294967296 := crcMask_lt _
theorem frameR_len (r : List UInt8) : (frameR r).length ≤ 10 + r.length := by
  unfold frameR
  rw [List.length_append]
  have := uvar_len r.length
  omega
theorem frameB_len (r : List UInt8) : (frameB r).length ≤ 14 + r.length := by
  unfold frameB
  rw [List.length_append, fixedU_len]
  have := frameR_len r
  omega
theorem fixB_four (g : Nat) : fixB g 4 = fixedU g 4 := by
  unfold fixB
  rw [if_neg (by omega)]
  rfl
theorem takeU_used (l : List UInt8) (h : (takeU l).2.2 = 0) : 1 ≤ (takeU l).2.1 := by
  unfold takeU at *
  split
  · rename_i h1; rw [if_pos h1] at h; simp at h
  · rename_i h1
    rw [if_neg h1] at h
    split
    · rename_i h2; rw [if_pos h2] at h; simp at h
    · simp
theorem ftakeB_used (xs : List UInt8) (h : (ftakeB xs).2.2 = 0) : 5 ≤ (ftakeB xs).2.1 ∧ (ftakeB xs).2.1 ≤ xs.length := by
  unfold ftakeB at *
  by_cases h1 : xs.length < 4
  · rw [if_pos h1] at h; simp at h
  · rw [if_neg h1] at h ⊢
    by_cases h2 : (takeU (xs.drop 4)).2.2 ≠ 0
    · rw [if_pos h2] at h; exact absurd h h2
    · rw [if_neg h2] at h ⊢
      by_cases h3 : 1048576 < (takeU (xs.drop 4)).1
      · rw [if_pos h3] at h; simp at h
      · rw [if_neg h3] at h ⊢
        by_cases h4 : xs.length - 4 - (takeU (xs.drop 4)).2.1 < (takeU (xs.drop 4)).1
        · rw [if_pos h4] at h; simp at h
        · rw [if_neg h4] at h ⊢
          by_cases h5 : sumR ((xs.drop 4).take ((takeU (xs.drop 4)).2.1 + (takeU (xs.drop 4)).1)) ≠ readU (xs.take 4)
          · rw [if_pos h5] at h; simp at h
          · rw [if_neg h5]
            have h6 := takeU_used (xs.drop 4) (by omega)
            have h7 := (takeU_lt (xs.drop 4)).2.1
            rw [List.length_drop] at h7
            simp only []
            omega
/-- The records at the front, and where they end. -/
def scanF : Nat → List UInt8 → List (List UInt8) × Nat
  | 0, _ => ([], 0)
  | f + 1, xs =>
    if xs = [] then ([], 0)
    else if (ftakeB xs).2.2 ≠ 0 then ([], 0)
    else ((ftakeB xs).1 :: (scanF f (xs.drop (ftakeB xs).2.1)).1, (ftakeB xs).2.1 + (scanF f (xs.drop (ftakeB xs).2.1)).2)
def scanB (xs : List UInt8) : List (List UInt8) × Nat := scanF (xs.length + 1) xs
theorem scanF_end {f : Nat} {xs : List UInt8} (h : xs = []) : scanF f xs = ([], 0) := by
  cases f with
  | zero => rfl
  | succ f => unfold scanF; rw [if_pos h]
theorem scanF_stop {f : Nat} {xs : List UInt8} (h : (ftakeB xs).2.2 ≠ 0) : scanF f xs = ([], 0) := by
  cases f with
  | zero => rfl
  | succ f =>
    unfold scanF
    split
    · rfl
    · rfl
theorem scanF_next {f : Nat} {xs : List UInt8} (h0 : xs ≠ []) (h : (ftakeB xs).2.2 = 0) : scanF (f + 1) xs = ((ftakeB xs).1 :: (scanF f (xs.drop (ftakeB xs).2.1)).1, (ftakeB xs).2.1 + (scanF f (xs.drop (ftakeB xs).2.1)).2) := by
  conv => lhs; unfold scanF
  rw [if_neg h0, if_neg (by omega)]
theorem scanF_fuel : ∀ (f g : Nat) (xs : List UInt8), xs.length < f → xs.length < g → scanF f xs = scanF g xs := by
  intro f
  induction f with
  | zero => intro g xs h; omega
  | succ f ih =>
    intro g xs hf hg
    obtain ⟨g, rfl⟩ : ∃ k, g = k + 1 := ⟨g - 1, by omega⟩
    by_cases h0 : xs = []
    · rw [scanF_end h0, scanF_end h0]
    · by_cases h1 : (ftakeB xs).2.2 = 0
      · have := ftakeB_used xs h1
        have hl : (xs.drop (ftakeB xs).2.1).length < xs.length := by rw [List.length_drop]; omega
        rw [scanF_next h0 h1, scanF_next h0 h1, ih g _ (by omega) (by omega)]
      · rw [scanF_stop h1, scanF_stop h1]
theorem scanB_nil : scanB [] = ([], 0) := scanF_end rfl
theorem scanB_stop {xs : List UInt8} (h : (ftakeB xs).2.2 ≠ 0) : scanB xs = ([], 0) := scanF_stop h
theorem scanB_next {xs : List UInt8} (h0 : xs ≠ []) (h : (ftakeB xs).2.2 = 0) : scanB xs = ((ftakeB xs).1 :: (scanB (xs.drop (ftakeB xs).2.1)).1, (ftakeB xs).2.1 + (scanB (xs.drop (ftakeB xs).2.1)).2) := by
  have hu := ftakeB_used xs h
  unfold scanB
  rw [scanF_next h0 h]
  have e : scanF xs.length (xs.drop (ftakeB xs).2.1) = scanF ((xs.drop (ftakeB xs).2.1).length + 1) (xs.drop (ftakeB xs).2.1) := scanF_fuel _ _ _ (by rw [List.length_drop]; omega) (by omega)
  rw [e]
end Go.Proofs.Ytkcdjmipmpeedaa
