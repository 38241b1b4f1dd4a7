/- A row of steps that came in, opened. -/
import Derived.Test.YtnjhiiakpndnnaaERs
namespace Go.Proofs.Ytnjhiiakpndnnaa
open Go.RowKit Go.WideShapes
set_option linter.unusedVariables false
set_option linter.unusedSimpArgs false

abbrev StepR : Type := Bool × List UInt8
def noSt : StepR := (false, [])
/-- A step's cells at an address. -/
def StC (w : World) (ad : Addr) (s : StepR) : Prop := ∃ Ak nk ck, w.cell? ad = some (.bool s.1) ∧ w.cell? ⟨ad.block, ad.off + 1, none⟩ = some (.slice Ak nk ck) ∧ RB w Ak nk s.2 ∧ nk ≤ ck
theorem StC.below {w w' : World} {ad : Addr} {s : StepR} (h : StC w ad s) (hb : Below w.heap.size w w') : StC w' ad s := by
  obtain ⟨Ak, nk, ck, h0, h1, h2, h3⟩ := h
  exact ⟨Ak, nk, ck, below_cell hb h0, below_cell hb h1, h2.below hb, h3⟩
def RSteps (w : World) (A : Option Addr) (n : Nat) (ss : List StepR) : Prop :=
  ss.length = n ∧ n ≤ 9223372036854775807 ∧ (0 < n → ∃ ad, A = some ad ∧ ∀ j, j < n → StC w (ad.add (j * 2)) (elt noSt ss j))
theorem RSteps.at_ {w : World} {A : Option Addr} {n : Nat} {ss : List StepR} (h : RSteps w A n ss) {j : Nat} (hj : j < n) : ∃ ad, A = some ad ∧ StC w (ad.add (j * 2)) (elt noSt ss j) := by
  obtain ⟨ad, e, hc⟩ := h.2.2 (by omega)
  exact ⟨ad, e, hc j hj⟩
theorem RSteps.below {w w' : World} {A : Option Addr} {n : Nat} {ss : List StepR} (h : RSteps w A n ss) (hb : Below w.heap.size w w') : RSteps w' A n ss :=
  ⟨h.1, h.2.1, fun hn => by
    obtain ⟨ad, e, hc⟩ := h.2.2 hn
    exact ⟨ad, e, fun j hj => (hc j hj).below hb⟩⟩
theorem cellsSt : Try.prog.cellsOf 53 = 2 := by kernel_rfl
section
variable {H : Type} {enc : TypeId × Value → H} {W : World} {base : Nat} {spare : Nat → Bool} {held : Bool}
theorem step_of_trod {fuel : Nat} {cs : List Value} {x : DataW H × List MemPlace} (h : DataW.trod enc Try.prog W base spare held fuel 53 cs = some x) :
    ∃ g Ak nk ck key, cs = [.bool g, .slice Ak nk ck] ∧ RB W Ak nk key ∧ nk ≤ ck := by
  obtain ⟨xs, n, _, rfl, hl, hlen, hf⟩ := DataW.trod_struct Try.underlying53 h
  rw [cellsSt] at hl
  match cs, hl with
  | [c0, c1], _ =>
    match xs, hlen with
    | [y0, y1], _ =>
      have f0 := hf 0 _ rfl
      have f1 := hf 1 _ rfl
      simp only [cellsB, cellsL, cellsI, List.drop_zero, List.drop_succ_cons, List.take_succ_cons, List.take_zero, List.getElem?_cons_zero, List.getElem?_cons_succ] at f0 f1
      obtain ⟨g, e0, _⟩ := DataW.trod_bool Try.underlying4 f0
      obtain ⟨Ak, nk, ck, key, rfl, k1, k2⟩ := bytes_of_trod f1
      cases e0
      exact ⟨g, Ak, nk, ck, key, rfl, k1, k2⟩
theorem RSteps_of_trod {A : Option Addr} {len cap : Nat} {d : DataW H} {ps : List MemPlace} (h : DataW.Trod enc Try.prog W base spare held 50 (.slice A len cap) d ps) : ∃ ss, RSteps W A len ss ∧ len ≤ cap := by
  obtain ⟨fuel, h⟩ := h
  rcases Go.Deep.open_slice Try.underlying50 h with ⟨hcs, _⟩ | ⟨a, l, cp, m, n, D, Pl, hcs, _, hl, hm, hmm, _, hcell⟩
  · simp only [Value.cells, List.cons.injEq, and_true, Value.slice.injEq] at hcs
    obtain ⟨rfl, rfl, rfl⟩ := hcs
    exact ⟨[], ⟨rfl, by omega, fun h => absurd h (by omega)⟩, Nat.le_refl _⟩
  · simp only [Value.cells, List.cons.injEq, and_true, Value.slice.injEq] at hcs
    obtain ⟨rfl, rfl, rfl⟩ := hcs
    have hl2 : len ≤ m := by
      rw [hmm]
      split
      · exact hl
      · exact Nat.le_refl _
    have each : ∀ j, ∃ o : StepR, j < len → StC W (a.add (j * 2)) o := by
      intro j
      by_cases hj : j < len
      · obtain ⟨cs', h1, h2⟩ := hcell j (by omega)
        rw [cellsSt] at h1
        obtain ⟨_, _, hc⟩ := World.cells?_some h1
        obtain ⟨g, Ak, nk, ck, key, rfl, k1, k2⟩ := step_of_trod h2
        have c0 := hc 0 (by omega)
        have c1 := hc 1 (by omega)
        have hsp := spot_of c0
        generalize a.add (j * 2) = ad at *
        obtain ⟨b, o, sp⟩ := ad
        simp only at hsp
        subst hsp
        rw [add_plain] at c0 c1
        exact ⟨(g, key), fun _ => ⟨Ak, nk, ck, c0, c1, k1, k2⟩⟩
      · exact ⟨noSt, fun h => absurd h hj⟩
    obtain ⟨F, hF⟩ := Classical.axiomOfChoice each
    refine ⟨(List.range len).map F, ⟨by simp, by simp only [maxLen] at hm; omega, fun _ => ⟨_, rfl, fun j hj => ?_⟩⟩, hl⟩
    have e : elt noSt ((List.range len).map F) j = F j := by simp [elt, hj]
    rw [e]
    exact hF j hj
end
end Go.Proofs.Ytnjhiiakpndnnaa
