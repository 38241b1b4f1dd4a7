/- Layer 14: lines and edits that came in, opened. -/
import Derived.Test.YthiolcccgiibhaaEdN
import Derived.Test.YthiolcccgiibhaaO
namespace Go.Proofs.Ythiolcccgiibhaa
open Go.RowKit Go.WideShapes
set_option linter.unusedVariables false
set_option linter.unusedSimpArgs false

section
variable {H : Type} {enc : TypeId × Value → H} {W : World} {base : Nat} {spare : Nat → Bool} {held : Bool}
theorem bytes_of_trod {fuel : Nat} {c : Value} {x : DataW H × List MemPlace} (h : DataW.trod enc Try.prog W base spare held fuel 22 [c] = some x) : ∃ A n cp xs, c = .slice A n cp ∧ RB W A n xs ∧ n ≤ cp := by
  have hform : ∃ A n cp, c = .slice A n cp := by
    rcases DataW.trod_slice Try.underlying22 h with ⟨h0, _⟩ | ⟨_, _, _, _, _, _, _, h0, _⟩
    · exact ⟨none, 0, 0, by simpa using h0⟩
    · exact ⟨_, _, _, by simpa using h0⟩
  obtain ⟨A, n, cp, rfl⟩ := hform
  obtain ⟨xs, h1, h2⟩ := RB_of_trod (d := x.1) (ps := x.2) Try.underlying22 Try.underlying5 (by kernel_rfl) ⟨fuel, by simpa [Value.cells] using h⟩
  exact ⟨A, n, cp, xs, rfl, h1, h2⟩
theorem cellsTb : Try.prog.cellsOf 24 = 5 := by kernel_rfl
theorem cellsB : Try.prog.cellsOf 22 = 1 := by kernel_rfl
theorem cellsI : Try.prog.cellsOf 2 = 1 := by kernel_rfl
theorem cellsN : Try.prog.cellsOf 3 = 1 := by kernel_rfl
theorem cellsTs : Try.prog.cellsOf 27 = 1 := by kernel_rfl
theorem cellsIs : Try.prog.cellsOf 28 = 1 := by kernel_rfl
theorem cellsEd : Try.prog.cellsOf 30 = 5 := by kernel_rfl
theorem tab_of_trod {fuel : Nat} {cs : List Value} {x : DataW H × List MemPlace} (h : DataW.trod enc Try.prog W base spare held fuel 24 cs = some x) :
    ∃ a b c Al nl cl Am nm cm least most, cs = [.int .i64 a, .int .i64 b, .int .i64 c, .slice Al nl cl, .slice Am nm cm] ∧ RB W Al nl least ∧ nl ≤ cl ∧ RB W Am nm most ∧ nm ≤ cm ∧ (Lit.int .i64 a).wf = true ∧ (Lit.int .i64 b).wf = true ∧ (Lit.int .i64 c).wf = true := by
  obtain ⟨xs, n, _, rfl, hl, hlen, hf⟩ := DataW.trod_struct Try.underlying24 h
  rw [cellsTb] at hl
  match cs, hl with
  | [c0, c1, c2, c3, c4], _ =>
    match xs, hlen with
    | [y0, y1, y2, y3, y4], _ =>
      have f0 := hf 0 _ rfl
      have f1 := hf 1 _ rfl
      have f2 := hf 2 _ rfl
      have f3 := hf 3 _ rfl
      have f4 := hf 4 _ rfl
      simp only [cellsB, cellsI, cellsN, List.drop_zero, List.drop_succ_cons, List.take_succ_cons, List.take_zero, List.getElem?_cons_zero, List.getElem?_cons_succ] at f0 f1 f2 f3 f4
      obtain ⟨a, e0, _, ha⟩ := DataW.trod_int Try.underlying2 f0
      obtain ⟨b, e1, _, hb⟩ := DataW.trod_int Try.underlying3 f1
      obtain ⟨c, e2, _, hc⟩ := DataW.trod_int Try.underlying2 f2
      obtain ⟨Al, nl, cl, least, rfl, k1, k2⟩ := bytes_of_trod f3
      obtain ⟨Am, nm, cm, most, rfl, v1, v2⟩ := bytes_of_trod f4
      cases e0
      cases e1
      cases e2
      exact ⟨a, b, c, Al, nl, cl, Am, nm, cm, least, most, rfl, k1, k2, v1, v2, ha, hb, hc⟩
theorem RTabs_of_trod {fuel : Nat} {c : Value} {x : DataW H × List MemPlace} (h : DataW.trod enc Try.prog W base spare held fuel 27 [c] = some x) : ∃ A n cp ts, c = .slice A n cp ∧ RTabs W A n ts ∧ n ≤ cp := by
  rcases Go.Deep.open_slice Try.underlying27 h with ⟨hcs, _⟩ | ⟨a, l, cp, m, n, D, Pl, hcs, _, hl, hm, hmm, _, hcell⟩
  · simp only [List.cons.injEq, and_true] at hcs
    subst hcs
    exact ⟨none, 0, 0, [], rfl, ⟨rfl, by decide, fun h => absurd h (by omega)⟩, Nat.le_refl _⟩
  · simp only [List.cons.injEq, and_true] at hcs
    subst hcs
    have hl2 : l ≤ m := by
      rw [hmm]
      split
      · exact hl
      · exact Nat.le_refl _
    have each : ∀ j, ∃ o : TabR, j < l → TabCells W (a.add (j * 5)) o := by
      intro j
      by_cases hj : j < l
      · obtain ⟨cs', h1, h2⟩ := hcell j (by omega)
        rw [cellsTb] at h1
        obtain ⟨_, _, hc⟩ := World.cells?_some h1
        obtain ⟨u, v, z, Al, nl, cl, Am, nm, cm, least, most, rfl, k1, k2, v1, v2, w1, w2, w3⟩ := tab_of_trod h2
        have c0 := hc 0 (by omega)
        have c1 := hc 1 (by omega)
        have c2 := hc 2 (by omega)
        have c3 := hc 3 (by omega)
        have c4 := hc 4 (by omega)
        have hsp := spot_of c0
        generalize a.add (j * 5) = ad at *
        obtain ⟨b, o, sp⟩ := ad
        simp only at hsp
        subst hsp
        rw [add_plain] at c0 c1 c2 c3 c4
        exact ⟨mkTab u v z least most, fun _ => ⟨Al, nl, cl, Am, nm, cm, c0, c1, c2, c3, c4, k1, k2, v1, v2, w1, w2, w3⟩⟩
      · exact ⟨noTab, fun h => absurd h hj⟩
    obtain ⟨F, hF⟩ := Classical.axiomOfChoice each
    refine ⟨_, l, cp, (List.range l).map F, rfl, ⟨by simp, by simp only [maxLen] at hm; omega, fun _ => ⟨_, rfl, fun j hj => ?_⟩⟩, hl⟩
    have e : elt noTab ((List.range l).map F) j = F j := by simp [elt, hj]
    rw [e]
    exact hF j hj
theorem ints_of_trod {fuel : Nat} {c : Value} {x : DataW H × List MemPlace} (h : DataW.trod enc Try.prog W base spare held fuel 28 [c] = some x) : ∃ A n cp zs, c = .slice A n cp ∧ RN .i64 W A n zs ∧ n ≤ cp := by
  have hform : ∃ A n cp, c = .slice A n cp := by
    rcases DataW.trod_slice Try.underlying28 h with ⟨h0, _⟩ | ⟨_, _, _, _, _, _, _, h0, _⟩
    · exact ⟨none, 0, 0, by simpa using h0⟩
    · exact ⟨_, _, _, by simpa using h0⟩
  obtain ⟨A, n, cp, rfl⟩ := hform
  obtain ⟨xs, h1, h2⟩ := RN_of_trod (d := x.1) (ps := x.2) Try.underlying28 Try.underlying2 (by kernel_rfl) ⟨fuel, by simpa [Value.cells] using h⟩
  exact ⟨A, n, cp, xs, rfl, h1, h2⟩
theorem Table_of_trod {v : Value} {d : DataW H} {ps : List MemPlace} (hv : ∃ cs, v = .agg cs) (h : DataW.Trod enc Try.prog W base spare held 24 v d ps) :
    ∃ a b c Al nl cl Am nm cm least most, v = .agg #[.int .i64 a, .int .i64 b, .int .i64 c, .slice Al nl cl, .slice Am nm cm] ∧ RB W Al nl least ∧ nl ≤ cl ∧ RB W Am nm most ∧ nm ≤ cm := by
  obtain ⟨cs, rfl⟩ := hv
  obtain ⟨fuel, hf0⟩ := h
  obtain ⟨a, b, c, Al, nl, cl, Am, nm, cm, least, most, e, h1, h2, h3, h4, _⟩ := tab_of_trod hf0
  obtain ⟨cs⟩ := cs
  simp only [Value.cells] at e
  subst e
  exact ⟨a, b, c, Al, nl, cl, Am, nm, cm, least, most, rfl, h1, h2, h3, h4⟩
theorem Edit_of_trod {v : Value} {d : DataW H} {ps : List MemPlace} (hv : ∃ cs, v = .agg cs) (h : DataW.Trod enc Try.prog W base spare held 30 v d ps) :
    ∃ l x s Aa na ca ts Ar nr cr zs, v = .agg #[.int .i64 l, .int .i64 x, .int .i64 s, .slice Aa na ca, .slice Ar nr cr] ∧ RTabs W Aa na ts ∧ na ≤ ca ∧ RN .i64 W Ar nr zs ∧ nr ≤ cr := by
  obtain ⟨cs, rfl⟩ := hv
  obtain ⟨fuel, hf0⟩ := h
  obtain ⟨xs, n, _, _, hl, hlen, hf⟩ := DataW.trod_struct Try.underlying30 hf0
  rw [cellsEd] at hl
  obtain ⟨cs⟩ := cs
  simp only [Value.cells] at hl hf
  match cs, hl with
  | [c0, c1, c2, c3, c4], _ =>
    match xs, hlen with
    | [y0, y1, y2, y3, y4], _ =>
      have f0 := hf 0 _ rfl
      have f1 := hf 1 _ rfl
      have f2 := hf 2 _ rfl
      have f3 := hf 3 _ rfl
      have f4 := hf 4 _ rfl
      simp only [cellsI, cellsTs, cellsIs, List.drop_zero, List.drop_succ_cons, List.take_succ_cons, List.take_zero, List.getElem?_cons_zero, List.getElem?_cons_succ] at f0 f1 f2 f3 f4
      obtain ⟨l, e0, _, _⟩ := DataW.trod_int Try.underlying2 f0
      obtain ⟨x, e1, _, _⟩ := DataW.trod_int Try.underlying2 f1
      obtain ⟨s, e2, _, _⟩ := DataW.trod_int Try.underlying2 f2
      obtain ⟨Aa, na, ca, ts, rfl, h1, h2⟩ := RTabs_of_trod f3
      obtain ⟨Ar, nr, cr, zs, rfl, h3, h4⟩ := ints_of_trod f4
      cases e0
      cases e1
      cases e2
      exact ⟨l, x, s, Aa, na, ca, ts, Ar, nr, cr, zs, rfl, h1, h2, h3, h4⟩
end
end Go.Proofs.Ythiolcccgiibhaa
