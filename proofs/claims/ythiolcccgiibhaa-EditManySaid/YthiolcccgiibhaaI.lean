/- Slices of whole numbers that came in. -/
import Derived.Test.YthiolcccgiibhaaO
namespace Go.Proofs.Ythiolcccgiibhaa
open Go.RowKit Go.ChangeShapes Go.WideShapes
set_option linter.unusedVariables false
set_option linter.unusedSimpArgs false

def RN (k : IntKind) (w : World) (A : Option Addr) (n : Nat) (zs : List Int) : Prop :=
  zs.length = n ∧ n ≤ 9223372036854775807 ∧ (∀ j, j < n → (Lit.int k (elt 0 zs j)).wf = true) ∧ (0 < n → ∃ ad, A = some ad ∧ ∀ j, j < n → w.cell? (ad.add j) = some (.int k (elt 0 zs j)))
section
variable {k : IntKind} {w w' : World} {A : Option Addr} {n : Nat} {zs : List Int}
theorem RN.nil (w : World) : RN k w none 0 [] := ⟨rfl, by omega, fun j h => absurd h (by omega), fun h => absurd h (by omega)⟩
theorem RN.at_ (h : RN k w A n zs) {j : Nat} (hj : j < n) : ∃ ad, A = some ad ∧ w.cell? (ad.add j) = some (.int k (elt 0 zs j)) := by
  obtain ⟨ad, e, hc⟩ := h.2.2.2 (by omega)
  exact ⟨ad, e, hc j hj⟩
theorem RN.below (h : RN k w A n zs) (hb : Below w.heap.size w w') : RN k w' A n zs :=
  ⟨h.1, h.2.1, h.2.2.1, fun hn => by
    obtain ⟨ad, e, hc⟩ := h.2.2.2 hn
    exact ⟨ad, e, fun j hj => below_cell hb (hc j hj)⟩⟩
end
theorem RN_of_trod {H : Type} {enc : TypeId × Value → H} {P : Program} {W : World} {base : Nat} {spare : Nat → Bool} {held : Bool} {t e : TypeId} {k : IntKind} {a : Option Addr} {len cap : Nat} {d : DataW H} {ps : List MemPlace}
    (hu : P.underlying t = some (.slice e)) (he : P.underlying e = some (.int k)) (hc : P.cellsOf e = 1) (h : DataW.Trod enc P W base spare held t (.slice a len cap) d ps) : ∃ zs, RN k W a len zs ∧ len ≤ cap := by
  obtain ⟨fuel, hf⟩ := h
  rcases open_ints hu he hc hf with ⟨hcs, _⟩ | ⟨x, l, c, zs, hcs, _, hl, hm, hz, _, hcell, hwz⟩
  · simp [Value.cells] at hcs
    obtain ⟨rfl, rfl, rfl⟩ := hcs
    exact ⟨[], RN.nil W, Nat.le_refl _⟩
  · simp [Value.cells] at hcs
    obtain ⟨rfl, rfl, rfl⟩ := hcs
    have hl2 : len ≤ zs.length := by
      rw [hz]
      split
      · exact hl
      · exact Nat.le_refl _
    have hel : ∀ j, (hj : j < len) → elt 0 (zs.take len) j = zs[j]'(by omega) := by
      intro j hj
      have hj2 : j < zs.length := by omega
      simp [elt, List.getElem?_take, hj, hj2]
    refine ⟨zs.take len, ⟨by simp; omega, by simp only [maxLen] at hm; omega, fun j hj => ?_, fun _ => ⟨_, rfl, fun j hj => ?_⟩⟩, hl⟩
    · rw [hel j hj]
      exact hwz _ (List.getElem_mem _)
    · rw [hcell j (by omega), hel j hj]
      simp [show j < zs.length from by omega]
end Go.Proofs.Ythiolcccgiibhaa
