/- A row of entries that came in, opened. -/
import Derived.Test.YteediedhofapkaaEnB
import Derived.Test.YteediedhofapkaaO
namespace Go.Proofs.Yteediedhofapkaa
open Go.RowKit Go.WideShapes
set_option linter.unusedVariables false
set_option linter.unusedSimpArgs false

section
variable {H : Type} {enc : TypeId × Value → H} {W : World} {base : Nat} {spare : Nat → Bool} {held : Bool}
theorem bytes_of_trod {fuel : Nat} {c : Value} {x : DataW H × List MemPlace} (h : DataW.trod enc Try.prog W base spare held fuel 23 [c] = some x) : ∃ A n cp xs, c = .slice A n cp ∧ RB W A n xs ∧ n ≤ cp := by
  have hform : ∃ A n cp, c = .slice A n cp := by
    rcases DataW.trod_slice Try.underlying23 h with ⟨h0, _⟩ | ⟨_, _, _, _, _, _, _, h0, _⟩
    · exact ⟨none, 0, 0, by simpa using h0⟩
    · exact ⟨_, _, _, by simpa using h0⟩
  obtain ⟨A, n, cp, rfl⟩ := hform
  obtain ⟨xs, h1, h2⟩ := RB_of_trod (d := x.1) (ps := x.2) Try.underlying23 Try.underlying5 (by kernel_rfl) ⟨fuel, by simpa [Value.cells] using h⟩
  exact ⟨A, n, cp, xs, rfl, h1, h2⟩
theorem cellsEn : Try.prog.cellsOf 26 = 5 := by kernel_rfl
theorem cellsB : Try.prog.cellsOf 23 = 1 := by kernel_rfl
theorem cellsL : Try.prog.cellsOf 4 = 1 := by kernel_rfl
theorem cellsI : Try.prog.cellsOf 2 = 1 := by kernel_rfl
theorem ent_of_trod {fuel : Nat} {cs : List Value} {x : DataW H × List MemPlace} (h : DataW.trod enc Try.prog W base spare held fuel 26 cs = some x) :
    ∃ Ak nk ck s g u Av nv cv key val, cs = [.slice Ak nk ck, .int .i64 s, .bool g, .int .i64 u, .slice Av nv cv] ∧ RB W Ak nk key ∧ nk ≤ ck ∧ RB W Av nv val ∧ nv ≤ cv := by
  obtain ⟨xs, n, _, rfl, hl, hlen, hf⟩ := DataW.trod_struct Try.underlying26 h
  rw [cellsEn] at hl
  match cs, hl with
  | [c0, c1, c2, c3, c4], _ =>
    match xs, hlen with
    | [y0, y1, y2, y3, y4], _ =>
      have f0 := hf 0 _ rfl
      have f1 := hf 1 _ rfl
      have f2 := hf 2 _ rfl
      have f3 := hf 3 _ rfl
      have f4 := hf 4 _ rfl
      simp only [cellsB, cellsL, cellsI, List.drop_zero, List.drop_succ_cons, List.take_succ_cons, List.take_zero, List.getElem?_cons_zero, List.getElem?_cons_succ] at f0 f1 f2 f3 f4
      obtain ⟨Ak, nk, ck, key, rfl, k1, k2⟩ := bytes_of_trod f0
      obtain ⟨s, e1, _, _⟩ := DataW.trod_int Try.underlying2 f1
      obtain ⟨g, e2, _⟩ := DataW.trod_bool Try.underlying4 f2
      obtain ⟨u, e3, _, _⟩ := DataW.trod_int Try.underlying2 f3
      obtain ⟨Av, nv, cv, val, rfl, v1, v2⟩ := bytes_of_trod f4
      cases e1
      cases e2
      cases e3
      exact ⟨Ak, nk, ck, s, g, u, Av, nv, cv, key, val, rfl, k1, k2, v1, v2⟩
theorem REnts_of_trod {A : Option Addr} {len cap : Nat} {d : DataW H} {ps : List MemPlace} (h : DataW.Trod enc Try.prog W base spare held 22 (.slice A len cap) d ps) : ∃ es, REnts W A len es ∧ len ≤ cap := by
  obtain ⟨fuel, h⟩ := h
  rcases Go.Deep.open_slice Try.underlying22 h with ⟨hcs, _⟩ | ⟨a, l, cp, m, n, D, Pl, hcs, _, hl, hm, hmm, _, hcell⟩
  · simp only [Value.cells, List.cons.injEq, and_true, Value.slice.injEq] at hcs
    obtain ⟨rfl, rfl, rfl⟩ := hcs
    exact ⟨[], REnts.nil _, Nat.le_refl _⟩
  · simp only [Value.cells, List.cons.injEq, and_true, Value.slice.injEq] at hcs
    obtain ⟨rfl, rfl, rfl⟩ := hcs
    have hl2 : len ≤ m := by
      rw [hmm]
      split
      · exact hl
      · exact Nat.le_refl _
    have each : ∀ j, ∃ o : EntR, j < len → EnC W (a.add (j * 5)) o := by
      intro j
      by_cases hj : j < len
      · obtain ⟨cs', h1, h2⟩ := hcell j (by omega)
        rw [cellsEn] at h1
        obtain ⟨_, _, hc⟩ := World.cells?_some h1
        obtain ⟨Ak, nk, ck, s, g, u, Av, nv, cv, key, val, rfl, k1, k2, v1, v2⟩ := ent_of_trod h2
        have c0 := hc 0 (by omega)
        have c1 := hc 1 (by omega)
        have c2 := hc 2 (by omega)
        have c3 := hc 3 (by omega)
        have c4 := hc 4 (by omega)
        have hsp := spot_of c0
        generalize a.add (j * 5) = ad at *
        obtain ⟨b, o, sp⟩ := ad
        simp only at hsp
        subst hsp
        rw [add_plain] at c0 c1 c2 c3 c4
        exact ⟨mkEnt key s g u val, fun _ => ⟨Ak, nk, ck, Av, nv, cv, c0, c1, c2, c3, c4, k1, v1, k2, v2⟩⟩
      · exact ⟨noEnt, fun h => absurd h hj⟩
    obtain ⟨F, hF⟩ := Classical.axiomOfChoice each
    refine ⟨(List.range len).map F, ⟨by simp, by simp only [maxLen] at hm; omega, fun _ => ⟨_, rfl, fun j hj => ?_⟩⟩, hl⟩
    have e : elt noEnt ((List.range len).map F) j = F j := by simp [elt, hj]
    rw [e]
    exact hF j hj
end
end Go.Proofs.Yteediedhofapkaa
