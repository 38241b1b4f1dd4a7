/- Layer 8: a batch that came in, opened. -/
import Derived.Test.YtdhmonomhifkkaaBaM
import Derived.Test.YtdhmonomhifkkaaO
namespace Go.Proofs.Ytdhmonomhifkkaa
open Go.RowKit Go.WideShapes
set_option linter.unusedVariables false
set_option linter.unusedSimpArgs false

section
variable {H : Type} {enc : TypeId × Value → H} {W : World} {base : Nat} {spare : Nat → Bool} {held : Bool}
theorem bytes_of_trod {fuel : Nat} {c : Value} {x : DataW H × List MemPlace} (h : DataW.trod enc Try.prog W base spare held fuel 26 [c] = some x) : ∃ A n cp xs, c = .slice A n cp ∧ RB W A n xs ∧ n ≤ cp := by
  have hform : ∃ A n cp, c = .slice A n cp := by
    rcases DataW.trod_slice Try.underlying26 h with ⟨h0, _⟩ | ⟨_, _, _, _, _, _, _, h0, _⟩
    · exact ⟨none, 0, 0, by simpa using h0⟩
    · exact ⟨_, _, _, by simpa using h0⟩
  obtain ⟨A, n, cp, rfl⟩ := hform
  obtain ⟨xs, h1, h2⟩ := RB_of_trod (d := x.1) (ps := x.2) Try.underlying26 Try.underlying5 (by kernel_rfl) ⟨fuel, by simpa [Value.cells] using h⟩
  exact ⟨A, n, cp, xs, rfl, h1, h2⟩
theorem cellsOp : Try.prog.cellsOf 28 = 4 := by kernel_rfl
theorem cellsB : Try.prog.cellsOf 26 = 1 := by kernel_rfl
theorem cellsL : Try.prog.cellsOf 4 = 1 := by kernel_rfl
theorem cellsI : Try.prog.cellsOf 2 = 1 := by kernel_rfl
theorem cellsOs : Try.prog.cellsOf 22 = 1 := by kernel_rfl
theorem cellsBt : Try.prog.cellsOf 24 = 2 := by kernel_rfl
theorem op_of_trod {fuel : Nat} {cs : List Value} {x : DataW H × List MemPlace} (h : DataW.trod enc Try.prog W base spare held fuel 28 cs = some x) :
    ∃ Ak nk ck g u Av nv cv key val, cs = [.slice Ak nk ck, .bool g, .int .i64 u, .slice Av nv cv] ∧ RB W Ak nk key ∧ nk ≤ ck ∧ RB W Av nv val ∧ nv ≤ cv ∧ (Lit.int .i64 u).wf = true := by
  obtain ⟨xs, n, _, rfl, hl, hlen, hf⟩ := DataW.trod_struct Try.underlying28 h
  rw [cellsOp] at hl
  match cs, hl with
  | [c0, c1, c2, c3], _ =>
    match xs, hlen with
    | [y0, y1, y2, y3], _ =>
      have f0 := hf 0 _ rfl
      have f1 := hf 1 _ rfl
      have f2 := hf 2 _ rfl
      have f3 := hf 3 _ rfl
      simp only [cellsB, cellsL, cellsI, List.drop_zero, List.drop_succ_cons, List.take_succ_cons, List.take_zero, List.getElem?_cons_zero, List.getElem?_cons_succ] at f0 f1 f2 f3
      obtain ⟨Ak, nk, ck, key, rfl, k1, k2⟩ := bytes_of_trod f0
      obtain ⟨g, e1, _⟩ := DataW.trod_bool Try.underlying4 f1
      obtain ⟨u, e2, _, hu⟩ := DataW.trod_int Try.underlying2 f2
      obtain ⟨Av, nv, cv, val, rfl, v1, v2⟩ := bytes_of_trod f3
      cases e1
      cases e2
      exact ⟨Ak, nk, ck, g, u, Av, nv, cv, key, val, rfl, k1, k2, v1, v2, hu⟩
theorem ROps_of_trod {fuel : Nat} {c : Value} {x : DataW H × List MemPlace} (h : DataW.trod enc Try.prog W base spare held fuel 22 [c] = some x) : ∃ A n cp ops, c = .slice A n cp ∧ ROps W A n ops ∧ n ≤ cp := by
  rcases Go.Deep.open_slice Try.underlying22 h with ⟨hcs, _⟩ | ⟨a, l, cp, m, n, D, Pl, hcs, _, hl, hm, hmm, _, hcell⟩
  · simp only [List.cons.injEq, and_true] at hcs
    subst hcs
    exact ⟨none, 0, 0, [], rfl, ⟨rfl, by decide, fun h => absurd h (by omega)⟩, Nat.le_refl _⟩
  · simp only [List.cons.injEq, and_true] at hcs
    subst hcs
    have hl2 : l ≤ m := by
      rw [hmm]
      split
      · exact hl
      · exact Nat.le_refl _
    have each : ∀ j, ∃ o : OpR, j < l → OpCells W (a.add (j * 4)) o := by
      intro j
      by_cases hj : j < l
      · obtain ⟨cs', h1, h2⟩ := hcell j (by omega)
        rw [cellsOp] at h1
        obtain ⟨_, _, hc⟩ := World.cells?_some h1
        obtain ⟨Ak, nk, ck, g, u, Av, nv, cv, key, val, rfl, k1, k2, v1, v2, hu⟩ := op_of_trod h2
        have c0 := hc 0 (by omega)
        have c1 := hc 1 (by omega)
        have c2 := hc 2 (by omega)
        have c3 := hc 3 (by omega)
        have hsp := spot_of c0
        generalize a.add (j * 4) = ad at *
        obtain ⟨b, o, sp⟩ := ad
        simp only at hsp
        subst hsp
        rw [add_plain] at c0 c1 c2 c3
        exact ⟨(key, g, u, val), fun _ => ⟨Ak, nk, ck, Av, nv, cv, c0, c1, c2, c3, k1, k2, v1, v2, hu⟩⟩
      · exact ⟨noOp, fun h => absurd h hj⟩
    obtain ⟨F, hF⟩ := Classical.axiomOfChoice each
    refine ⟨_, l, cp, (List.range l).map F, rfl, ⟨by simp, by simp only [maxLen] at hm; omega, fun _ => ⟨_, rfl, fun j hj => ?_⟩⟩, hl⟩
    have e : elt noOp ((List.range l).map F) j = F j := by simp [elt, hj]
    rw [e]
    exact hF j hj
theorem Batch_of_trod {v : Value} {d : DataW H} {ps : List MemPlace} (hv : ∃ cs, v = .agg cs) (h : DataW.Trod enc Try.prog W base spare held 24 v d ps) :
    ∃ s A n c ops, v = .agg #[.int .i64 s, .slice A n c] ∧ ROps W A n ops ∧ n ≤ c ∧ (-9223372036854775808 ≤ s ∧ s ≤ 9223372036854775807) := by
  obtain ⟨cs, rfl⟩ := hv
  obtain ⟨fuel, hf0⟩ := h
  obtain ⟨xs, n, _, _, hl, hlen, hf⟩ := DataW.trod_struct Try.underlying24 hf0
  rw [cellsBt] at hl
  obtain ⟨cs⟩ := cs
  simp only [Value.cells] at hl hf
  match cs, hl with
  | [c0, c1], _ =>
    match xs, hlen with
    | [y0, y1], _ =>
      have f0 := hf 0 _ rfl
      have f1 := hf 1 _ rfl
      simp only [cellsI, cellsOs, List.drop_zero, List.drop_succ_cons, List.take_succ_cons, List.take_zero, List.getElem?_cons_zero, List.getElem?_cons_succ] at f0 f1
      obtain ⟨s, e1, _, hs⟩ := DataW.trod_int Try.underlying2 f0
      obtain ⟨A, m, cp, ops, rfl, h1, h2⟩ := ROps_of_trod f1
      cases e1
      exact ⟨s, A, m, cp, ops, rfl, h1, h2, wf_i64 hs⟩
end
end Go.Proofs.Ytdhmonomhifkkaa
