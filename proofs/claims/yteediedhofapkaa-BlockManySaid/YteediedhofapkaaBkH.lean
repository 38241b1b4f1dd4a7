/- Layer 11's laws: the entries that BlockMany makes, in plain terms. -/
import Derived.Test.YteediedhofapkaaBkG
namespace Go.Proofs.Yteediedhofapkaa
open Go.RowKit
set_option linter.unusedVariables false
set_option linter.unusedSimpArgs false

def mnyE (z n : Nat) (v : UInt8) (i : Nat) : EntR := mkEnt (List.replicate z 0 ++ [UInt8.ofNat (i / 256), UInt8.ofNat i]) ((n : Int) - (i : Int)) false 0 [v]
def mnyS (z n : Nat) (v : UInt8) (m : Nat) : List EntR := (List.range m).map (mnyE z n v)
theorem mnyS_succ (z n : Nat) (v : UInt8) (m : Nat) : mnyS z n v (m + 1) = mnyS z n v m ++ [mnyE z n v m] := by simp [mnyS, List.range_succ]
theorem mnyS_len (z n : Nat) (v : UInt8) (m : Nat) : (mnyS z n v m).length = m := by simp [mnyS]
theorem mnyS_elt {z n : Nat} {v : UInt8} {m k : Nat} (h : k < m) : elt noEnt (mnyS z n v m) k = mnyE z n v k := by
  rw [elt_get noEnt (by rw [mnyS_len]; exact h)]
  simp [mnyS]
theorem cmp_pre : ∀ (p a b : List UInt8), cmpB (p ++ a) (p ++ b) = cmpB a b := by
  intro p
  induction p with
  | nil => intro a b; rfl
  | cons x p ih =>
    intro a b
    rw [List.cons_append, List.cons_append, cmpB_cons, if_neg (UInt8.lt_irrefl x), if_neg (UInt8.lt_irrefl x)]
    exact ih a b
theorem mny_cmp : ∀ k, k < 500 → cmpB [UInt8.ofNat (k / 256), UInt8.ofNat k] [UInt8.ofNat ((k + 1) / 256), UInt8.ofNat (k + 1)] < 0 := by decide +kernel
theorem mny_fit {z n : Nat} (v : UInt8) (hz : z < 100) (hn : 1 ≤ n ∧ n ≤ 400) : FitK (mnyS z n v n) := by
  refine ⟨by rw [mnyS_len]; exact hn.1, by rw [mnyS_len]; exact hn.2, fun j hj => ?_, ordN_Srt fun k h1 h2 => ?_⟩
  · rw [mnyS_len] at hj
    rw [mnyS_elt hj]
    have hl : (eKey (mnyE z n v j)).length = z + 2 := by simp [mnyE, eKey, mkEnt]
    unfold mayE mayN
    rw [decide_eq_true_iff, hl]
    refine ⟨by omega, by omega, by show 1 ≤ 2048; omega, by show 1 ≤ (n : Int) - (j : Int); omega, by show (n : Int) - (j : Int) ≤ _; omega, Int.le_refl _, by show (0 : Int) ≤ _; omega, .inl rfl⟩
  · rw [mnyS_len] at h2
    rw [mnyS_elt (by omega), mnyS_elt h2]
    have h := mny_cmp (k - 1) (by omega)
    rw [Nat.sub_add_cancel h1] at h
    unfold aheadE aheadK
    rw [decide_eq_true_iff]
    exact .inl (by show cmpB (List.replicate z 0 ++ _) (List.replicate z 0 ++ _) < 0; rw [cmp_pre]; exact h)
/-- What Encode answers to them. -/
theorem mny_code {z n : Nat} (v : UInt8) (hz : z < 100) : (n = 0 ∨ 400 < n) ∨ FitK (mnyS z n v n) := by
  by_cases h : n = 0 ∨ 400 < n
  · exact .inl h
  · exact .inr (mny_fit v hz (by omega))
end Go.Proofs.Yteediedhofapkaa
