/- Layer 8: a batch comes back, whole or not at all: the plain law. -/
import Derived.Test.YtdhmonomhifkkaaBaW
namespace Go.Proofs.Ytdhmonomhifkkaa
open Go.RowKit
set_option linter.unusedVariables false
set_option linter.unusedSimpArgs false

def flatB : List OpR → List UInt8
  | [] => []
  | o :: l => opB o ++ flatB l
theorem flatB_app : ∀ a b, flatB (a ++ b) = flatB a ++ flatB b := by
  intro a b
  induction a with
  | nil => rfl
  | cons o l ih => rw [List.cons_append, flatB, ih, flatB, List.append_assoc]
theorem loopR_err {er : Nat} (h : er ≠ 0) : ∀ f xs acc, loopR f xs er acc = (acc, xs, er) := by
  intro f xs acc
  cases f with
  | zero => rfl
  | succ f => rw [loopR, if_pos h]
theorem loop_put : ∀ (l : List OpR), (∀ o ∈ l, opE o = 0) → ∀ r acc, loopR l.length (flatB l ++ r) 0 acc = (acc ++ l, r, 0) := by
  intro l
  induction l with
  | nil => intro _ r acc; simp [loopR, flatB]
  | cons o l ih =>
    intro h r acc
    rw [List.length_cons, loopR, if_neg (by omega), flatB, List.append_assoc, oneR_put (h o (by simp))]
    rw [ih (fun x hx => h x (by simp [hx]))]
    simp
theorem loop_cut : ∀ (l : List OpR), (∀ o ∈ l, opE o = 0) → ∀ acc i, i < (flatB l).length → (loopR l.length ((flatB l).take i) 0 acc).2.2 ≠ 0 := by
  intro l
  induction l with
  | nil => intro _ acc i hi; simp [flatB] at hi
  | cons o l ih =>
    intro h acc i hi
    rw [List.length_cons, loopR, if_neg (by omega)]
    rw [flatB] at hi ⊢
    rcases take_app hi with ⟨h1, e⟩ | ⟨j, hj, e⟩
    · rw [e]
      have hc := oneR_cut (h o (by simp)) h1
      rw [loopR_err hc]
      exact hc
    · rw [e, oneR_put (h o (by simp))]
      exact ih (fun x hx => h x (by simp [hx])) _ _ hj
theorem accB_flat (s : Int) (ops : List OpR) : ∀ k, k ≤ ops.length → accB s ops k = (uvar s.toNat ++ uvar ops.length) ++ flatB (ops.take k) := by
  intro k
  induction k with
  | zero => intro _; simp [accB, flatB]
  | succ k ih =>
    intro hk
    rw [accB, opS_app, ih (by omega), take_succ_elt noOp (by omega), flatB_app]
    simp [flatB]
/-- Bytes as a batch: its number, its changes, the error. -/
def decR (xs : List UInt8) : Nat × List OpR × Int :=
  let a := numR 4611686018427387904 xs 0
  let b := numR 400 a.2.1 a.2.2
  let l := loopR b.1 b.2.1 b.2.2 []
  let e := if l.2.2 = 0 ∧ 0 < l.2.1.length then 3 else l.2.2
  (a.1, l.1, if e = 0 then mayE a.1 l.1 else (e : Int))
theorem enc_flat {s : Int} {ops : List OpR} (h : mayE s ops = 0) : encB s ops = uvar s.toNat ++ (uvar ops.length ++ flatB ops) := by
  unfold encB
  rw [if_pos h, accB_flat s ops _ (Nat.le_refl _), List.take_length, List.append_assoc]
theorem allE {s : Int} {ops : List OpR} (h : mayE s ops = 0) : ∀ o ∈ ops, opE o = 0 := by
  intro o ho
  obtain ⟨j, hj, e⟩ := List.mem_iff_getElem.1 ho
  have := (mayE_zero h).2.2.2.2 j hj
  rw [elt_get noOp hj, e] at this
  exact this
theorem dec_more {s : Int} {ops : List OpR} (h : mayE s ops = 0) (r : List UInt8) : decR (encB s ops ++ r) = (s.toNat, ops, if r.length = 0 then 0 else 3) := by
  obtain ⟨m1, m2, m3, m4, _⟩ := mayE_zero h
  have e1 : numR 4611686018427387904 (uvar s.toNat ++ (uvar ops.length ++ (flatB ops ++ r))) 0 = (s.toNat, uvar ops.length ++ (flatB ops ++ r), 0) := numR_uvar (by omega) (by omega) _
  have e2 : numR 400 (uvar ops.length ++ (flatB ops ++ r)) 0 = (ops.length, flatB ops ++ r, 0) := numR_uvar (by omega) (by omega) _
  have e3 := loop_put ops (allE h) r []
  rw [enc_flat h, List.append_assoc, List.append_assoc]
  unfold decR
  simp only [e1, e2, e3, List.nil_append, true_and]
  have hs : ((s.toNat : Nat) : Int) = s := by omega
  by_cases hr : r.length = 0
  · simp [hr, hs, h]
  · have : 0 < r.length := by omega
    simp [hr, this]
theorem dec_cut {s : Int} {ops : List OpR} (h : mayE s ops = 0) {i : Nat} (hi : i < (encB s ops).length) : (decR ((encB s ops).take i)).2.2 ≠ 0 := by
  obtain ⟨m1, m2, m3, m4, _⟩ := mayE_zero h
  rw [enc_flat h] at hi ⊢
  have fin : ∀ (a : Nat) (l : List OpR) (xs : List UInt8) (er : Nat), er ≠ 0 → (if (if er = 0 ∧ 0 < xs.length then 3 else er) = 0 then mayE a l else ((if er = 0 ∧ 0 < xs.length then 3 else er : Nat) : Int)) ≠ 0 := by
    intro a l xs er he
    have e1 : (if er = 0 ∧ 0 < xs.length then 3 else er) = er := if_neg (fun x => he x.1)
    rw [e1, if_neg he]
    omega
  rcases take_app hi with ⟨h1, e⟩ | ⟨j, hj, e⟩
  · rw [e]
    have hc := numR_cut (most := 4611686018427387904) (show s.toNat < 18446744073709551616 by omega) h1
    unfold decR
    simp only
    rw [numR_err hc, loopR_err hc]
    exact fin _ _ _ _ hc
  · rw [e]
    have e1 : numR 4611686018427387904 (uvar s.toNat ++ (uvar ops.length ++ flatB ops).take j) 0 = (s.toNat, (uvar ops.length ++ flatB ops).take j, 0) := numR_uvar (by omega) (by omega) _
    unfold decR
    simp only [e1]
    rcases take_app hj with ⟨h2, e2⟩ | ⟨k, hk, e2⟩
    · rw [e2]
      have hc := numR_cut (most := 400) (show ops.length < 18446744073709551616 by omega) h2
      rw [loopR_err hc]
      exact fin _ _ _ _ hc
    · have e3 : numR 400 (uvar ops.length ++ (flatB ops).take k) 0 = (ops.length, (flatB ops).take k, 0) := numR_uvar (by omega) (by omega) _
      rw [e2]
      simp only [e3]
      exact fin _ _ _ _ (loop_cut ops (allE h) [] k hk)
end Go.Proofs.Ytdhmonomhifkkaa
