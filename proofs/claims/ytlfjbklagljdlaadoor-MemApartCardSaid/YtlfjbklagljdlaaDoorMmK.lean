/- Layer 9: seek: the walk. -/
import Derived.Test.YtlfjbklagljdlaaDoorMmT
import Derived.Deep.LoopGhost
namespace Go.Proofs.YtlfjbklagljdlaaDoor
open Go.RowKit
set_option linter.unusedVariables false
set_option linter.unusedSimpArgs false

/-- The path's pointers from level t on; nothing below. -/
def pc (l : List NodeR) (bm t i : Nat) : Value := if t ≤ i then ptrTo (lastAt i bm l) else .pointer none
def pathC (l : List NodeR) (bm t : Nat) : Array Value := #[pc l bm t 0, pc l bm t 1, pc l bm t 2, pc l bm t 3, pc l bm t 4, pc l bm t 5, pc l bm t 6, pc l bm t 7]
theorem pathC_8 (l : List NodeR) (bm : Nat) : pathC l bm 8 = #[.pointer none, .pointer none, .pointer none, .pointer none, .pointer none, .pointer none, .pointer none, .pointer none] := rfl
theorem pathC_set (l : List NodeR) (bm t : Nat) (ht : t < 8) : (pathC l bm (t + 1)).setIfInBounds t (ptrTo (lastAt t bm l)) = pathC l bm t := by
  have hc : t = 0 ∨ t = 1 ∨ t = 2 ∨ t = 3 ∨ t = 4 ∨ t = 5 ∨ t = 6 ∨ t = 7 := by omega
  rcases hc with rfl | rfl | rfl | rfl | rfl | rfl | rfl | rfl <;> simp [pathC, pc]
theorem pathC_get (l : List NodeR) (bm t i : Nat) (hi : i < 8) : (pathC l bm t)[i]? = some (pc l bm t i) := by
  have hc : i = 0 ∨ i = 1 ∨ i = 2 ∨ i = 3 ∨ i = 4 ∨ i = 5 ∨ i = 6 ∨ i = 7 := by omega
  rcases hc with rfl | rfl | rfl | rfl | rfl | rfl | rfl | rfl <;> rfl
theorem posOK.mono {l : List NodeR} {bm a b i j : Nat} (h : posOK l bm a b i) (hj : j ≤ i) : posOK l bm a b j := by
  rcases h with h | ⟨p, x, q, h1, h2, h3, h4⟩
  · exact .inl h
  · exact .inr ⟨p, x, q, h1, h2, h3, by omega⟩
/-- A position behind which, up to P, no node is in level i: it is the last of the level. -/
theorem posOK.last {l : List NodeR} {bm a b i P : Nat} (h : posOK l bm a b i) (ha : a ≤ P) (hn : ∀ x ∈ (l.take P).drop a, nHt x ≤ i) : b = lastAt i bm (l.take P) := by
  rcases h with ⟨rfl, rfl⟩ | ⟨p, x, q, rfl, rfl, rfl, hx⟩
  · rw [List.drop_zero] at hn
    have := lastAt_skip hn [] b
    rw [List.nil_append] at this
    rw [this]
    rfl
  · obtain ⟨d, rfl⟩ : ∃ d, P = p.length + 1 + d := ⟨P - (p.length + 1), by omega⟩
    have e : (p ++ x :: q).take (p.length + 1 + d) = (p ++ [x]) ++ q.take d := by
      rw [show p ++ x :: q = (p ++ [x]) ++ q by simp, show p.length + 1 + d = (p ++ [x]).length + d by simp, List.take_length_add_append]
    rw [e] at hn ⊢
    have e2 : ((p ++ [x]) ++ q.take d).drop (p.length + 1) = q.take d := by
      rw [show p.length + 1 = (p ++ [x]).length by simp, List.drop_left]
    rw [e2] at hn
    rw [lastAt_skip hn, lastAt_snoc hx]
/-- What stands at a position: where to go from there. -/
theorem seek_at {l : List NodeR} {bm a b i P : Nat} {key : List UInt8} {s : Int} (h : posOK l bm a b i) (ha : a ≤ P) (hP : P ≤ l.length) (hA : ∀ x ∈ l.take P, aheadK (nEnt x) key s = true) (hN : ∀ x ∈ l.drop P, aheadK (nEnt x) key s = false) :
    (firstAt i (l.drop a) = .pointer none ∧ b = lastAt i bm (l.take P)) ∨
    ∃ p x q, l = p ++ x :: q ∧ firstAt i (l.drop a) = ptrTo (nBlk x) ∧ ((aheadK (nEnt x) key s = false ∧ b = lastAt i bm (l.take P)) ∨ (aheadK (nEnt x) key s = true ∧ posOK l bm (p.length + 1) (nBlk x) i ∧ a < p.length + 1 ∧ p.length + 1 ≤ P)) := by
  rcases firstAt_pos (l := l) (a := a) (i := i) (by omega) with ⟨h1, h2⟩ | ⟨p, x, q, h1, h2, h3, h4, h5⟩
  · refine .inl ⟨h1, h.last ha fun y hy => h2 y ?_⟩
    rw [List.drop_take] at hy
    exact List.mem_of_mem_take hy
  · refine .inr ⟨p, x, q, h1, h4, ?_⟩
    by_cases hlt : p.length < P
    · refine .inr ⟨hA x ?_, .inr ⟨p, x, q, h1, rfl, rfl, h3⟩, by omega, by omega⟩
      rw [h1, show P = p.length + (P - p.length) by omega, List.take_length_add_append, show P - p.length = (P - p.length - 1) + 1 by omega]
      simp
    · refine .inl ⟨hN x ?_, h.last ha fun y hy => h5 y ?_⟩
      · have : l.drop p.length = (l.drop P).drop (p.length - P) := by rw [List.drop_drop]; congr 1; omega
        have hm : x ∈ l.drop p.length := by rw [h1, List.drop_left]; simp
        rw [this] at hm
        exact List.mem_of_mem_drop hm
      · rw [h1, List.take_append_of_le_length (by omega), List.drop_take] at hy
        exact List.mem_of_mem_take hy
def zero8 : Array Value := #[.pointer none, .pointer none, .pointer none, .pointer none, .pointer none, .pointer none, .pointer none, .pointer none]
/-- What a round of seek finds. -/
def SeekW (w wr : World) (bm : Nat) (l : List NodeR) (t : Nat) : Prop :=
  Below w.heap.size w wr ∧ wr.heap[w.heap.size + 1]? = some (.cells (pathC l bm t) 57 (0, 0)) ∧ wr.heap[w.heap.size]? = some (.cells zero8 57 (0, 0)) ∧ w.heap.size + 2 ≤ wr.heap.size
theorem SeekW.below {w wr w' : World} {bm : Nat} {l : List NodeR} {t : Nat} (h : SeekW w wr bm l t) (hb : Below wr.heap.size wr w') : SeekW w w' bm l t :=
  ⟨below_then h.1 hb, blk_below hb h.2.1, blk_below hb h.2.2.1, Nat.le_trans h.2.2.2 hb.size⟩
theorem SeekW.store {w wr : World} {bm : Nat} {l : List NodeR} {t : Nat} (h : SeekW w wr bm l (t + 1)) (ht : t < 8) : SeekW w (wr.setCell ⟨w.heap.size + 1, t, none⟩ (ptrTo (lastAt t bm l))) bm l t := by
  have h1 := heap_setCell_same wr (w.heap.size + 1) t _ _ (ptrTo (lastAt t bm l)) h.2.1
  rw [pathC_set l bm t ht] at h1
  refine ⟨h.1.setCell (by simp) _, h1, blk_grown' (grown_set _ _ _ _) h.2.2.1 (by simp), ?_⟩
  simpa using h.2.2.2
end Go.Proofs.YtlfjbklagljdlaaDoor
