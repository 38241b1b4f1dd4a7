/- Layer 9: the list of several levels in memory: what is read of it. -/
import Derived.Test.YtlfjbklagljdlaaDoorMmS
namespace Go.Proofs.YtlfjbklagljdlaaDoor
open Go.RowKit
set_option linter.unusedVariables false
set_option linter.unusedSimpArgs false

theorem SLn.below {w w' : World} {base : Nat} (hb : Below w.heap.size w w') : ∀ {l : List NodeR}, SLn w base l → SLn w' base l := by
  intro l
  induction l with
  | nil => intro h; trivial
  | cons x l ih =>
    intro h
    obtain ⟨h1, h2, h3, h4, h5, h6, h7⟩ := h
    exact ⟨blk_below hb h1, h2.below hb, h3.below hb, h4, h5, h6, ih h7⟩
theorem SL.below {w w' : World} {base bm : Nat} {l : List NodeR} {n : Nat} {wt : Int} (h : SL w base bm l n wt) (hb : Below w.heap.size w w') : SL w' base bm l n wt := ⟨blk_below hb h.1, h.2.below hb⟩
/-- A node of the list: its block's cells, its bytes. -/
theorem SLn.get {w : World} {base : Nat} : ∀ {p : List NodeR} {x : NodeR} {q : List NodeR}, SLn w base (p ++ x :: q) →
    w.heap[nBlk x]? = some (.cells (nodeCells x q) 59 (0, 0)) ∧ OB w base (nKv x) (eKey (nEnt x)) ∧ OB w base (nVv x) (eVal (nEnt x)) ∧ nHt x ≤ 8 ∧ base ≤ nBlk x ∧ SLn w base q := by
  intro p
  induction p with
  | nil =>
    intro x q h
    obtain ⟨h1, h2, h3, h4, h5, h6, h7⟩ := h
    exact ⟨h1, h2, h3, h4, h5, h7⟩
  | cons y p ih =>
    intro x q h
    exact ih h.2.2.2.2.2.2
/-- Position a of the list as level i meets it: the head, or a node that is in level i. -/
def posOK (l : List NodeR) (bm a b i : Nat) : Prop := (a = 0 ∧ b = bm) ∨ ∃ p x q, l = p ++ x :: q ∧ a = p.length + 1 ∧ b = nBlk x ∧ i < nHt x
theorem posOK.le {l : List NodeR} {bm a b i : Nat} (h : posOK l bm a b i) : a ≤ l.length := by
  rcases h with ⟨rfl, _⟩ | ⟨p, x, q, rfl, rfl, _⟩
  · exact Nat.zero_le _
  · simp
/-- The cell of level i at a position: the first node of the level behind it. -/
theorem SL.next {w : World} {base bm : Nat} {l : List NodeR} {n : Nat} {wt : Int} (h : SL w base bm l n wt) {a b i : Nat} (hp : posOK l bm a b i) (hi : i < 8) : w.cell? ⟨b, 5 + i, none⟩ = some (firstAt i (l.drop a)) := by
  rcases hp with ⟨rfl, rfl⟩ | ⟨p, x, q, rfl, rfl, rfl, hx⟩
  · rw [List.drop_zero]
    refine box_at h.1 (5 + i) _ ?_
    have hc : i = 0 ∨ i = 1 ∨ i = 2 ∨ i = 3 ∨ i = 4 ∨ i = 5 ∨ i = 6 ∨ i = 7 := by omega
    rcases hc with rfl | rfl | rfl | rfl | rfl | rfl | rfl | rfl <;> rfl
  · have hd : (p ++ x :: q).drop (p.length + 1) = q := by simp [List.drop_append]
    rw [hd]
    have hn : nextAt x q i = firstAt i q := by unfold nextAt; rw [if_pos hx]
    rw [← hn]
    refine box_at h.2.get.1 (5 + i) _ ?_
    have hc : i = 0 ∨ i = 1 ∨ i = 2 ∨ i = 3 ∨ i = 4 ∨ i = 5 ∨ i = 6 ∨ i = 7 := by omega
    rcases hc with rfl | rfl | rfl | rfl | rfl | rfl | rfl | rfl <;> rfl
/-- The pointer that stands there: nothing, and no node behind is in the level; or a node, its place, its cells. -/
theorem firstAt_pos {l : List NodeR} {a i : Nat} (ha : a ≤ l.length) : (firstAt i (l.drop a) = .pointer none ∧ ∀ x ∈ l.drop a, nHt x ≤ i) ∨
    ∃ p x q, l = p ++ x :: q ∧ a ≤ p.length ∧ i < nHt x ∧ firstAt i (l.drop a) = ptrTo (nBlk x) ∧ (∀ y ∈ p.drop a, nHt y ≤ i) := by
  rcases firstAt_cases i (l.drop a) with h | ⟨p, x, q, h1, h2, h3, h4⟩
  · exact .inl h
  · refine .inr ⟨l.take a ++ p, x, q, ?_, ?_, h3, h4, ?_⟩
    · rw [List.append_assoc, ← h1, List.take_append_drop]
    · rw [List.length_append, List.length_take]; omega
    · have e : (l.take a ++ p).drop a = p := by
        rw [List.drop_append, List.length_take, Nat.min_eq_left ha, Nat.sub_self, List.drop_zero, List.drop_eq_nil_of_le (by rw [List.length_take]; omega), List.nil_append]
      rw [e]
      exact h2
end Go.Proofs.YtlfjbklagljdlaaDoor
