/- Layer 16: rows merged: the entries of all rows, in order. -/
import Derived.Test.YtnjhiiakpndnnaaMgF
namespace Go.Proofs.Ytnjhiiakpndnnaa
open Go.RowKit
set_option linter.unusedVariables false
set_option linter.unusedSimpArgs false

theorem er_cons (x : List EntR) (R : List (List EntR)) (r : Nat) : er (x :: R) (r + 1) = er R r := by simp [er, elt]
theorem flat_nil : ∀ (R : List (List EntR)), (∀ r, r < R.length → er R r = []) → R.flatten = [] := by
  intro R
  induction R with
  | nil => intro _; rfl
  | cons x R ih =>
    intro h
    have h1 : x = [] := h 0 (by simp)
    have h2 := ih fun r hr => h (r + 1) (by simpa using hr)
    rw [List.flatten_cons, h1, h2]
    rfl
theorem flat_perm {x : EntR} {l : List EntR} : ∀ {R : List (List EntR)} {b : Nat}, b < R.length → er R b = x :: l → R.flatten.Perm (x :: (R.set b l).flatten) := by
  intro R
  induction R with
  | nil => intro b h; simp at h
  | cons y R ih =>
    intro b h he
    cases b with
    | zero =>
      have : y = x :: l := he
      rw [this]
      simp
    | succ b =>
      rw [er_cons] at he
      have := ih (by simpa using h) he
      rw [List.flatten_cons, List.set_cons_succ, List.flatten_cons]
      exact (List.Perm.append_left y this).trans List.perm_middle
theorem MRel.perm : ∀ {out : List EntR} {R : List (List EntR)}, MRel R out → out.Perm R.flatten := by
  intro out
  induction out with
  | nil =>
    intro R h
    rw [flat_nil R h]
  | cons x out ih =>
    intro R h
    obtain ⟨b, h1, h2, h3, h4, h5⟩ := h
    have he : er R b = x :: (er R b).tail := by
      cases hq : er R b with
      | nil => exact absurd hq h2
      | cons y l => rw [h3, hq]; rfl
    exact (List.Perm.cons x (ih h5)).trans (flat_perm h1 he).symm
/-- In order, like ones side by side allowed. -/
def WSrt (l : List EntR) : Prop := l.Pairwise fun a b => aheadE b a = false
theorem ahead_weak {a b c : EntR} (h1 : aheadE b a = false) (h2 : aheadE c b = false) : aheadE c a = false := by
  cases hq : aheadE c a
  · rfl
  · rcases ahead_tri a b with h | h | h
    · rw [ahead_tr hq h] at h2; cases h2
    · rw [h] at h1; cases h1
    · rw [ahead_same_r h] at hq; rw [hq] at h2; cases h2
theorem Srt.pair {l : List EntR} (h : Srt l) : l.Pairwise fun a b => aheadE a b = true := by
  induction l with
  | nil => exact List.Pairwise.nil
  | cons x l ih => exact List.Pairwise.cons h.1 (ih h.2)
theorem mem_er {R : List (List EntR)} {y : EntR} (h : y ∈ R.flatten) : ∃ r, r < R.length ∧ y ∈ er R r := by
  obtain ⟨l, hl, hy⟩ := List.mem_flatten.1 h
  obtain ⟨r, hr, rfl⟩ := List.getElem_of_mem hl
  exact ⟨r, hr, by rw [er, elt_get [] hr]; exact hy⟩
theorem MRel.sorted : ∀ {out : List EntR} {R : List (List EntR)}, MRel R out → (∀ r, r < R.length → Srt (er R r)) → WSrt out := by
  intro out
  induction out with
  | nil => intro R _ _; exact List.Pairwise.nil
  | cons x out ih =>
    intro R h hs
    obtain ⟨b, h1, h2, h3, h4, h5⟩ := h
    have he : er R b = x :: (er R b).tail := by
      cases hq : er R b with
      | nil => exact absurd hq h2
      | cons y l => rw [h3, hq]; rfl
    have hsb := hs b h1
    rw [he] at hsb
    refine List.Pairwise.cons (fun y hy => ?_) (ih h5 fun r hr => ?_)
    · have hp := (MRel.perm h5).mem_iff.1 hy
      obtain ⟨r, hr, hy⟩ := mem_er hp
      rw [List.length_set] at hr
      rw [er_set h1] at hy
      by_cases hrb : r = b
      · rw [if_pos hrb] at hy
        exact ahead_asym (hsb.1 y hy)
      · rw [if_neg hrb] at hy
        have hne : er R r ≠ [] := by intro e; rw [e] at hy; cases hy
        have hl := h4 r hr hne hrb
        obtain ⟨z, l, hz⟩ : ∃ z l, er R r = z :: l := by
          cases hq : er R r with
          | nil => exact absurd hq hne
          | cons z l => exact ⟨z, l, rfl⟩
        have hxz : aheadE z x = false := by
          have e1 : hE (mkHd (er R b) b) = x := h3.symm
          have e2 : hE (mkHd (er R r) r) = z := by show elt noEnt (er R r) 0 = z; rw [hz]; rfl
          rcases hl with hl | ⟨hl, _⟩
          · rw [e1, e2] at hl; exact ahead_asym hl
          · rw [e1, e2] at hl; rw [← ahead_same_l hl]; exact ahead_irrefl _
        have hsr := hs r hr
        rw [hz] at hsr hy
        rcases List.mem_cons.1 hy with rfl | hy
        · exact hxz
        · exact ahead_weak hxz (ahead_asym (hsr.1 y hy))
    · rw [List.length_set] at hr
      rw [er_set h1]
      by_cases hrb : r = b
      · rw [if_pos hrb]; exact hsb.2
      · rw [if_neg hrb]; exact hs r hr
/-- No two like ones side by side: strictly in order. -/
theorem WSrt.strict : ∀ {l : List EntR}, WSrt l → (∀ k, 1 ≤ k → k < l.length → ¬ sameE (elt noEnt l (k - 1)) (elt noEnt l k)) → Srt l := by
  intro l h hn
  refine ordN_Srt fun k h1 h2 => ?_
  have hp := List.pairwise_iff_getElem.1 h (k - 1) k (by omega) h2 (by omega)
  have hs := hn k h1 h2
  rw [elt_get noEnt (by omega), elt_get noEnt h2] at hs ⊢
  rcases ahead_tri l[k - 1] l[k] with h | h | h
  · exact h
  · rw [h] at hp; cases hp
  · exact absurd h hs
/-- Entries that are no two alike, in order: strictly in order. -/
theorem WSrt.apart {l m : List EntR} (h : WSrt l) (hm : Srt m) (hsub : ∃ l' : List EntR, l'.Perm l ∧ l'.Sublist m) : Srt l := by
  have hp : m.Pairwise fun a b => ¬ sameE a b := (Srt.pair hm).imp fun h => ahead_not_same h
  obtain ⟨l', hl', hs⟩ := hsub
  have hp' := hp.sublist hs
  have hpl : l.Pairwise fun a b => ¬ sameE a b := (hl'.pairwise_iff (fun {a b} h k => h (same_symm k))).1 hp'
  refine h.strict fun k h1 h2 => ?_
  rw [elt_get noEnt (by omega), elt_get noEnt h2]
  exact List.pairwise_iff_getElem.1 hpl (k - 1) k (by omega) h2 (by omega)
/-- The same entries, strictly in order: the same row. -/
theorem Srt.perm_eq : ∀ {l m : List EntR}, Srt l → Srt m → l.Perm m → l = m := by
  intro l m hl hm hp
  exact hp.eq_of_pairwise (le := fun a b => aheadE a b = true) (fun a b _ _ h1 h2 => by rw [ahead_asym h1] at h2; cases h2) (Srt.pair hl) (Srt.pair hm)
end Go.Proofs.Ytnjhiiakpndnnaa
