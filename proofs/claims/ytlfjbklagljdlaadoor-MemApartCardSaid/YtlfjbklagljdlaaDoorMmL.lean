/- Layer 9: seek: the walk. -/
import Derived.Test.YtlfjbklagljdlaaDoorMmK
namespace Go.Proofs.YtlfjbklagljdlaaDoor
open Go.RowKit
set_option linter.unusedVariables false
set_option linter.unusedSimpArgs false

theorem node8 : (Tryd.prog.info? 57).map (·.size) = some 8 := by kernel_rfl
theorem set8 {wr : World} {b : Nat} {a0 a1 a2 a3 a4 a5 a6 a7 : Value} {T : TypeId} (c0 c1 c2 c3 c4 c5 c6 c7 : Value) (h : wr.heap[b]? = some (.cells #[a0, a1, a2, a3, a4, a5, a6, a7] T (0, 0))) : ((((((((wr.setCell ⟨b, 0, none⟩ c0).setCell ⟨b, 1, none⟩ c1).setCell ⟨b, 2, none⟩ c2).setCell ⟨b, 3, none⟩ c3).setCell ⟨b, 4, none⟩ c4).setCell ⟨b, 5, none⟩ c5).setCell ⟨b, 6, none⟩ c6).setCell ⟨b, 7, none⟩ c7).heap[b]? = some (.cells #[c0, c1, c2, c3, c4, c5, c6, c7] T (0, 0)) := by
  have h1 : (wr.setCell ⟨b, 0, none⟩ c0).heap[b]? = some (.cells #[c0, a1, a2, a3, a4, a5, a6, a7] T (0, 0)) := heap_setCell_same _ b 0 _ _ c0 h
  have h2 : ((wr.setCell ⟨b, 0, none⟩ c0).setCell ⟨b, 1, none⟩ c1).heap[b]? = some (.cells #[c0, c1, a2, a3, a4, a5, a6, a7] T (0, 0)) := heap_setCell_same _ b 1 _ _ c1 h1
  have h3 : (((wr.setCell ⟨b, 0, none⟩ c0).setCell ⟨b, 1, none⟩ c1).setCell ⟨b, 2, none⟩ c2).heap[b]? = some (.cells #[c0, c1, c2, a3, a4, a5, a6, a7] T (0, 0)) := heap_setCell_same _ b 2 _ _ c2 h2
  have h4 : ((((wr.setCell ⟨b, 0, none⟩ c0).setCell ⟨b, 1, none⟩ c1).setCell ⟨b, 2, none⟩ c2).setCell ⟨b, 3, none⟩ c3).heap[b]? = some (.cells #[c0, c1, c2, c3, a4, a5, a6, a7] T (0, 0)) := heap_setCell_same _ b 3 _ _ c3 h3
  have h5 : (((((wr.setCell ⟨b, 0, none⟩ c0).setCell ⟨b, 1, none⟩ c1).setCell ⟨b, 2, none⟩ c2).setCell ⟨b, 3, none⟩ c3).setCell ⟨b, 4, none⟩ c4).heap[b]? = some (.cells #[c0, c1, c2, c3, c4, a5, a6, a7] T (0, 0)) := heap_setCell_same _ b 4 _ _ c4 h4
  have h6 : ((((((wr.setCell ⟨b, 0, none⟩ c0).setCell ⟨b, 1, none⟩ c1).setCell ⟨b, 2, none⟩ c2).setCell ⟨b, 3, none⟩ c3).setCell ⟨b, 4, none⟩ c4).setCell ⟨b, 5, none⟩ c5).heap[b]? = some (.cells #[c0, c1, c2, c3, c4, c5, a6, a7] T (0, 0)) := heap_setCell_same _ b 5 _ _ c5 h5
  have h7 : (((((((wr.setCell ⟨b, 0, none⟩ c0).setCell ⟨b, 1, none⟩ c1).setCell ⟨b, 2, none⟩ c2).setCell ⟨b, 3, none⟩ c3).setCell ⟨b, 4, none⟩ c4).setCell ⟨b, 5, none⟩ c5).setCell ⟨b, 6, none⟩ c6).heap[b]? = some (.cells #[c0, c1, c2, c3, c4, c5, c6, a7] T (0, 0)) := heap_setCell_same _ b 6 _ _ c6 h6
  have h8 : ((((((((wr.setCell ⟨b, 0, none⟩ c0).setCell ⟨b, 1, none⟩ c1).setCell ⟨b, 2, none⟩ c2).setCell ⟨b, 3, none⟩ c3).setCell ⟨b, 4, none⟩ c4).setCell ⟨b, 5, none⟩ c5).setCell ⟨b, 6, none⟩ c6).setCell ⟨b, 7, none⟩ c7).heap[b]? = some (.cells #[c0, c1, c2, c3, c4, c5, c6, c7] T (0, 0)) := heap_setCell_same _ b 7 _ _ c7 h7
  exact h8
theorem grown_set8 (wr : World) (b : Nat) (c0 c1 c2 c3 c4 c5 c6 c7 : Value) : wr.grownBy ((((((((wr.setCell ⟨b, 0, none⟩ c0).setCell ⟨b, 1, none⟩ c1).setCell ⟨b, 2, none⟩ c2).setCell ⟨b, 3, none⟩ c3).setCell ⟨b, 4, none⟩ c4).setCell ⟨b, 5, none⟩ c5).setCell ⟨b, 6, none⟩ c6).setCell ⟨b, 7, none⟩ c7) (some b) :=
  grown_trans (grown_trans (grown_trans (grown_trans (grown_trans (grown_trans (grown_trans (grown_set _ _ _ _) (grown_set _ _ _ _)) (grown_set _ _ _ _)) (grown_set _ _ _ _)) (grown_set _ _ _ _)) (grown_set _ _ _ _)) (grown_set _ _ _ _)) (grown_set _ _ _ _)
/-- A position's facts, behind a name. -/
def AtP (l : List NodeR) (bm b i P g : Nat) : Prop := ∃ a, posOK l bm a b i ∧ a ≤ P ∧ g = P - a
theorem AtP.mono {l : List NodeR} {bm b i j P g : Nat} (h : AtP l bm b i P g) (hj : j ≤ i) : AtP l bm b j P g := by
  obtain ⟨a, h1, h2, h3⟩ := h
  exact ⟨a, h1.mono hj, h2, h3⟩
/-- A round of seek, at a level: what the pointer there is, and where to go. -/
theorem AtP.step {w w' : World} {base bm : Nat} {l : List NodeR} {n : Nat} {wt : Int} {key : List UInt8} {s : Int} {P b i g : Nat} (hS : SL w base bm l n wt) (hb : Below w.heap.size w w') (h : AtP l bm b i P g) (hi : i < 8) (hP : P ≤ l.length)
    (hA : ∀ x ∈ l.take P, aheadK (nEnt x) key s = true) (hN : ∀ x ∈ l.drop P, aheadK (nEnt x) key s = false) :
    (w'.cell? ⟨b, 5 + i, none⟩ = some (.pointer none) ∧ b = lastAt i bm (l.take P)) ∨
    ∃ b' e Ak nk ck Av nv cv, w'.cell? ⟨b, 5 + i, none⟩ = some (.pointer (some ⟨b', 0, none⟩)) ∧
      (w'.cell? ⟨b', 0, none⟩ = some (.slice Ak nk ck) ∧ w'.cell? ⟨b', 1, none⟩ = some (.int .i64 (eSeq e)) ∧ w'.cell? ⟨b', 2, none⟩ = some (.bool (eGone e)) ∧ w'.cell? ⟨b', 3, none⟩ = some (.int .i64 (eTil e)) ∧ w'.cell? ⟨b', 4, none⟩ = some (.slice Av nv cv) ∧ RB w' Ak nk (eKey e)) ∧
      ((aheadK e key s = false ∧ b = lastAt i bm (l.take P)) ∨ (aheadK e key s = true ∧ ∃ g', g' < g ∧ AtP l bm b' i P g')) := by
  obtain ⟨a, h1, h2, h3⟩ := h
  have hc := below_cell hb (hS.next h1 hi)
  rcases seek_at h1 h2 hP hA hN with ⟨e1, e2⟩ | ⟨p, x, q, e1, e2, e3⟩
  · rw [e1] at hc
    exact .inl ⟨hc, e2⟩
  · rw [e2] at hc
    have hn := hS.2
    rw [e1] at hn
    obtain ⟨c1, c2, c3, _, _, _⟩ := hn.get
    have c1 := blk_below hb c1
    obtain ⟨Ak, ck, hkv, hrk, _⟩ := OB.open_ (OB.below c2 hb)
    obtain ⟨Av, cv, hvv, hrv, _⟩ := OB.open_ (OB.below c3 hb)
    refine .inr ⟨nBlk x, nEnt x, Ak, (eKey (nEnt x)).length, ck, Av, (eVal (nEnt x)).length, cv, hc, ⟨?_, box_at c1 1 _ rfl, box_at c1 2 _ rfl, box_at c1 3 _ rfl, ?_, hrk⟩, ?_⟩
    · rw [← hkv]; exact box_at c1 0 _ rfl
    · rw [← hvv]; exact box_at c1 4 _ rfl
    · rcases e3 with e3 | ⟨e3, e4, e5, e6⟩
      · exact .inl e3
      · exact .inr ⟨e3, P - (p.length + 1), by omega, p.length + 1, e4, e6, rfl⟩
end Go.Proofs.YtlfjbklagljdlaaDoor
