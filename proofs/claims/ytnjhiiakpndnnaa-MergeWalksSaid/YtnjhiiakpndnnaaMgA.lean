/- Layer 16: heads in plain terms: which is ahead; heaps. -/
import Derived.Test.YtnjhiiakpndnnaaMmQ
namespace Go.Proofs.Ytnjhiiakpndnnaa
open Go.RowKit
set_option linter.unusedVariables false
set_option linter.unusedSimpArgs false

/-- What is left of a row, and which row it is. -/
def HeadR : Type := List EntR × Nat
def hL (h : HeadR) : List EntR := h.1
def hRow (h : HeadR) : Nat := h.2
def mkHd (l : List EntR) (r : Nat) : HeadR := (l, r)
def noHd : HeadR := mkHd [] 0
def hE (h : HeadR) : EntR := elt noEnt (hL h) 0
def sameE (a b : EntR) : Prop := eKey a = eKey b ∧ eSeq a = eSeq b
def LessH (a b : HeadR) : Prop := aheadE (hE a) (hE b) = true ∨ (sameE (hE a) (hE b) ∧ hRow a < hRow b)
theorem ahead_asym {a b : EntR} (h : aheadE a b = true) : aheadE b a = false := by
  cases hq : aheadE b a
  · rfl
  · have := ahead_trans (a := a) (b := b) (key := eKey a) (s := eSeq a) h hq
    rw [show aheadK a (eKey a) (eSeq a) = aheadE a a from rfl, ahead_irrefl] at this
    cases this
theorem ahead_tri (a b : EntR) : aheadE a b = true ∨ aheadE b a = true ∨ sameE a b := by
  cases h1 : aheadE a b
  · cases h2 : aheadE b a
    · exact .inr (.inr (ahead_total h1 h2))
    · exact .inr (.inl rfl)
  · exact .inl rfl
theorem ahead_same_l {a b c : EntR} (h : sameE a b) : aheadE a c = aheadE b c := by
  unfold aheadE aheadK
  rw [h.1, h.2]
theorem ahead_same_r {a b c : EntR} (h : sameE a b) : aheadE c a = aheadE c b := by
  unfold aheadE
  rw [h.1, h.2]
theorem ahead_not_same {a b : EntR} (h : aheadE a b = true) : ¬ sameE a b := fun hs => by
  rw [ahead_same_l hs, ahead_irrefl] at h
  cases h
theorem same_symm {a b : EntR} (h : sameE a b) : sameE b a := ⟨h.1.symm, h.2.symm⟩
theorem same_trans {a b c : EntR} (h : sameE a b) (k : sameE b c) : sameE a c := ⟨h.1.trans k.1, h.2.trans k.2⟩
theorem ahead_tr {a b c : EntR} (h : aheadE a b = true) (k : aheadE b c = true) : aheadE a c = true := ahead_trans h k
theorem LessH.asym {a b : HeadR} (h : LessH a b) : ¬ LessH b a := by
  rintro (k | ⟨k, k2⟩)
  · rcases h with h | ⟨h, _⟩
    · rw [ahead_asym h] at k; cases k
    · exact ahead_not_same k (same_symm h)
  · rcases h with h | ⟨_, h2⟩
    · exact ahead_not_same h (same_symm k)
    · omega
/-- What is ahead of one is ahead of any third, or the third is ahead of it. -/
theorem LessH.split {c i : HeadR} (h : LessH c i) (j : HeadR) : LessH c j ∨ LessH j i := by
  rcases ahead_tri (hE c) (hE j) with hcj | hjc | hs
  · exact .inl (.inl hcj)
  · rcases h with h | ⟨h, _⟩
    · exact .inr (.inl (ahead_tr hjc h))
    · exact .inr (.inl (by rw [← ahead_same_r h]; exact hjc))
  · rcases h with h | ⟨h, h2⟩
    · exact .inr (.inl (by rw [← ahead_same_l hs]; exact h))
    · by_cases hr : hRow c < hRow j
      · exact .inl (.inr ⟨hs, hr⟩)
      · exact .inr (.inr ⟨same_trans (same_symm hs) h, by omega⟩)
/-- Two of different rows: one is ahead. -/
theorem LessH.total {a b : HeadR} (h1 : ¬ LessH a b) (h2 : ¬ LessH b a) : sameE (hE a) (hE b) ∧ hRow a = hRow b := by
  rcases ahead_tri (hE a) (hE b) with h | h | h
  · exact absurd (.inl h) h1
  · exact absurd (.inl h) h2
  · refine ⟨h, ?_⟩
    rcases Nat.lt_trichotomy (hRow a) (hRow b) with hr | hr | hr
    · exact absurd (.inr ⟨h, hr⟩) h1
    · exact hr
    · exact absurd (.inr ⟨same_symm h, hr⟩) h2
abbrev eh (H : List HeadR) (k : Nat) : HeadR := elt noHd H k
/-- The pairs whose upper one is from lo on stand right. -/
def HF (H : List HeadR) (lo : Nat) : Prop := ∀ k, 1 ≤ k → k < H.length → lo ≤ (k - 1) / 2 → ¬ LessH (eh H k) (eh H ((k - 1) / 2))
/-- .. but for those right under i. -/
def HI (H : List HeadR) (lo i : Nat) : Prop :=
  lo ≤ i ∧ (∀ k, 1 ≤ k → k < H.length → lo ≤ (k - 1) / 2 → (k - 1) / 2 ≠ i → ¬ LessH (eh H k) (eh H ((k - 1) / 2))) ∧
  (∀ k, 1 ≤ k → k < H.length → (k - 1) / 2 = i → 1 ≤ i → lo ≤ (i - 1) / 2 → ¬ LessH (eh H k) (eh H ((i - 1) / 2)))
theorem HI.start {H : List HeadR} {lo : Nat} (h : HF H (lo + 1)) : HI H lo lo := by
  refine ⟨Nat.le_refl _, fun k h1 h2 h3 h4 => h k h1 h2 (by omega), fun k h1 h2 h3 h4 h5 => ?_⟩
  omega
theorem HI.leaf {H : List HeadR} {lo i : Nat} (h : HI H lo i) (hl : H.length ≤ 2 * i + 1) : HF H lo := by
  intro k h1 h2 h3
  refine h.2.1 k h1 h2 h3 ?_
  omega
theorem HI.stay {H : List HeadR} {lo i j : Nat} (h : HI H lo i) (hj : ¬ LessH (eh H j) (eh H i)) (hc : ∀ k, 1 ≤ k → k < H.length → (k - 1) / 2 = i → k ≠ j → ¬ LessH (eh H k) (eh H j)) : HF H lo := by
  intro k h1 h2 h3
  by_cases hp : (k - 1) / 2 = i
  · rw [hp]
    by_cases hkj : k = j
    · rw [hkj]; exact hj
    · intro hl
      rcases hl.split (eh H j) with hl | hl
      · exact hc k h1 h2 hp hkj hl
      · exact hj hl
  · exact h.2.1 k h1 h2 h3 hp
/-- Two of a list changed for one another. -/
def swapL {α : Type} (d : α) (l : List α) (i j : Nat) : List α := (l.set i (elt d l j)).set j (elt d l i)
theorem swapL_len {α : Type} (d : α) (l : List α) (i j : Nat) : (swapL d l i j).length = l.length := by simp [swapL]
theorem elt_set {α : Type} (d : α) (l : List α) (i k : Nat) (a : α) (hi : i < l.length) : elt d (l.set i a) k = if k = i then a else elt d l k := by
  unfold elt
  rw [List.getD_eq_getElem?_getD, List.getD_eq_getElem?_getD, List.getElem?_set]
  by_cases h : i = k
  · subst h; simp [hi]
  · rw [if_neg h, if_neg (fun e => h e.symm)]
theorem elt_swap {α : Type} (d : α) (l : List α) (i j k : Nat) (hi : i < l.length) (hj : j < l.length) (hij : i ≠ j) : elt d (swapL d l i j) k = if k = i then elt d l j else if k = j then elt d l i else elt d l k := by
  unfold swapL
  rw [elt_set d _ j k _ (by simpa using hj), elt_set d l i k _ hi]
  by_cases h1 : k = j
  · subst h1; rw [if_pos rfl, if_neg (fun e => hij e.symm), if_pos rfl]
  · rw [if_neg h1, if_neg h1]
theorem swapL_perm {α : Type} (d : α) (l : List α) (i j : Nat) (hi : i < l.length) (hj : j < l.length) (hij : i ≠ j) : (swapL d l i j).Perm l := by
  have h := Array.swap_perm (xs := l.toArray) (i := i) (j := j) (by simpa using hi) (by simpa using hj)
  have h2 := Array.perm_iff_toList_perm.1 h
  unfold swapL
  rw [elt_get d hj, elt_get d hi]
  simpa [Array.swap] using h2
theorem HI.swap {H : List HeadR} {lo i j : Nat} (h : HI H lo i) (hp : (j - 1) / 2 = i) (h1 : 1 ≤ j) (hjn : j < H.length) (hin : i < H.length) (hl : LessH (eh H j) (eh H i)) (hc : ∀ k, 1 ≤ k → k < H.length → (k - 1) / 2 = i → k ≠ j → ¬ LessH (eh H k) (eh H j)) : HI (swapL noHd H i j) lo j := by
  have hij : i ≠ j := by omega
  have e := fun k => elt_swap noHd H i j k hin hjn hij
  have hn := swapL_len noHd H i j
  refine ⟨by have := h.1; omega, fun k k1 k2 k3 k4 => ?_, fun k k1 k2 k3 k4 k5 => ?_⟩
  · rw [hn] at k2
    show ¬ LessH (elt noHd _ k) (elt noHd _ ((k - 1) / 2))
    rw [e k, e ((k - 1) / 2), if_neg k4]
    by_cases hpi : (k - 1) / 2 = i
    · rw [if_pos hpi]
      by_cases hkj : k = j
      · rw [if_neg (by omega), if_pos hkj]
        exact hl.asym
      · rw [if_neg (by omega), if_neg hkj]
        exact hc k k1 k2 hpi hkj
    · rw [if_neg hpi]
      by_cases hki : k = i
      · rw [if_pos hki, hki]
        exact h.2.2 j h1 hjn hp (by omega) (by rw [← hki]; exact k3)
      · rw [if_neg hki, if_neg (by intro e; rw [e] at hpi; exact hpi hp)]
        exact h.2.1 k k1 k2 k3 hpi
  · rw [hn] at k2
    show ¬ LessH (elt noHd _ k) (elt noHd _ ((j - 1) / 2))
    rw [e k, e ((j - 1) / 2), hp, if_pos rfl, if_neg (by omega), if_neg (by omega)]
    have := h.2.1 k k1 k2 (by have := h.1; omega) (by omega)
    rw [k3] at this
    exact this
/-- On top: none is ahead of it. -/
theorem HF.top {H : List HeadR} (h : HF H 0) : ∀ k, k < H.length → ¬ LessH (eh H k) (eh H 0) := by
  intro k
  induction k using Nat.strongRecOn with
  | ind k ih =>
    intro hk
    by_cases h0 : k = 0
    · rw [h0]; exact fun hl => hl.asym hl
    · intro hl
      have hp : (k - 1) / 2 < k := by omega
      rcases hl.split (eh H ((k - 1) / 2)) with hl | hl
      · exact h k (by omega) hk (by omega) hl
      · exact ih _ hp (by omega) hl
noncomputable def lessB (a b : HeadR) : Bool := @decide (LessH a b) (Classical.propDecidable _)
theorem lessB_iff {a b : HeadR} : lessB a b = true ↔ LessH a b := by unfold lessB; simp
theorem lessB_not {a b : HeadR} : lessB a b = false ↔ ¬ LessH a b := by unfold lessB; simp
end Go.Proofs.Ytnjhiiakpndnnaa
