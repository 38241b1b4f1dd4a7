/- Rows of rows of entries that came in, opened. -/
import Derived.Test.YtnjhiiakpndnnaaER
import Derived.Test.YtnjhiiakpndnnaaMgF
namespace Go.Proofs.Ytnjhiiakpndnnaa
open Go.RowKit Go.WideShapes
set_option linter.unusedVariables false
set_option linter.unusedSimpArgs false

theorem cellsRow : Try.prog.cellsOf 27 = 1 := by kernel_rfl
theorem REnss_of_trod {H : Type} {enc : TypeId × Value → H} {W : World} {base : Nat} {spare : Nat → Bool} {held : Bool} {A : Option Addr} {len cap : Nat} {d : DataW H} {ps : List MemPlace} (h : DataW.Trod enc Try.prog W base spare held 22 (.slice A len cap) d ps) : ∃ ess, REnss W A len ess ∧ len ≤ cap := by
  obtain ⟨fuel, hf⟩ := h
  rcases Go.Deep.open_slice1 Try.underlying22 cellsRow hf with ⟨hcs, _⟩ | ⟨x, l, c, m, n, V, D, Pl, hcs, _, hl, hm, hmm, _, hcell⟩
  · simp [Value.cells] at hcs
    obtain ⟨rfl, rfl, rfl⟩ := hcs
    exact ⟨[], ⟨rfl, by omega, fun h => absurd h (by omega)⟩, Nat.le_refl _⟩
  · simp [Value.cells] at hcs
    obtain ⟨rfl, rfl, rfl⟩ := hcs
    have hl2 : len ≤ m := by
      rw [hmm]
      split
      · exact hl
      · exact Nat.le_refl _
    have each : ∀ j, ∃ es : List EntR, j < len → ∃ Aj nj cj, V j = .slice Aj nj cj ∧ REnts W Aj nj es ∧ nj ≤ cj := by
      intro j
      by_cases hj : j < len
      · obtain ⟨h1, h2⟩ := hcell j (by omega)
        have hform : ∃ Aj nj cj, V j = .slice Aj nj cj := by
          rcases DataW.trod_slice Try.underlying27 h2 with ⟨h0, _⟩ | ⟨_, _, _, _, _, _, _, h0, _⟩
          · exact ⟨none, 0, 0, by simpa using h0⟩
          · exact ⟨_, _, _, by simpa using h0⟩
        obtain ⟨Aj, nj, cj, hV⟩ := hform
        rw [hV] at h2
        obtain ⟨es, h3, h4⟩ := REnts_of_trod (d := D j) (ps := Pl j) ⟨n, by simpa [Value.cells] using h2⟩
        exact ⟨es, fun _ => ⟨Aj, nj, cj, hV, h3, h4⟩⟩
      · exact ⟨[], fun h => absurd h hj⟩
    obtain ⟨F, hF⟩ := Classical.axiomOfChoice each
    refine ⟨(List.range len).map F, ⟨by simp, by simp only [maxLen] at hm; omega, fun _ => ⟨_, rfl, fun j hj => ?_⟩⟩, hl⟩
    obtain ⟨Aj, nj, cj, h1, h2, h3⟩ := hF j hj
    refine ⟨Aj, nj, cj, by rw [← h1]; exact (hcell j (by omega)).1, ?_, h3⟩
    simpa [er, elt, hj] using h2
end Go.Proofs.Ytnjhiiakpndnnaa
