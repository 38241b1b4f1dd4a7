/- Layer 16's laws: sorted. -/
import Derived.Test.YtnjhiiakpndnnaaMgO
namespace Go.Proofs.Ytnjhiiakpndnnaa
open Go.RowKit
set_option linter.unusedVariables false
set_option linter.unusedSimpArgs false

/-- A row whose entries' bytes are read in a world. -/
def ROwR (w wr : World) (base : Nat) (v : Value) (es : List EntR) : Prop := ∃ U, OV wr base 35 5 v U ∧ RelV noEnt (PER w) U es
theorem ROwR.below {w wr w' : World} {base : Nat} {v : Value} {es : List EntR} (h : ROwR w wr base v es) (hb : Below wr.heap.size wr w') : ROwR w w' base v es := by
  obtain ⟨U, h1, h2⟩ := h
  exact ⟨U, h1.below hb, h2⟩
theorem ROwR.other {w wr w' : World} {base base' : Nat} {u v : Value} {es : List EntR} {V : List (List Value)} (h : ROwR w wr base u es) (hg : wr.grownBy w' v.ownBlock) (hv : OV wr base' 27 1 v V) : ROwR w w' base u es := by
  obtain ⟨U, h1, h2⟩ := h
  exact ⟨U, h1.other hg (h1.apart_row hv (by decide)), h2⟩
def PRowR (w wr : World) (base : Nat) (x : List Value) (es : List EntR) : Prop := ∃ A n c, x = [.slice A n c] ∧ ROwR w wr base (.slice A n c) es
def RRowR (w wr : World) (base : Nat) (v : Value) (R : List (List EntR)) : Prop := ∃ V, OV wr base 27 1 v V ∧ RelV [] (PRowR w wr base) V R
theorem RRowR.nil (w wr : World) (base : Nat) : RRowR w wr base (.slice none 0 0) [] := ⟨[], OV.nil _ _ _ _, RelV.nil⟩
theorem RRowR.below {w wr w' : World} {base : Nat} {v : Value} {R : List (List EntR)} (h : RRowR w wr base v R) (hb : Below wr.heap.size wr w') : RRowR w w' base v R := by
  obtain ⟨V, h1, h2⟩ := h
  exact ⟨V, h1.below hb, h2.mono fun x a ⟨A, n, c, hx, hr⟩ => ⟨A, n, c, hx, hr.below hb⟩⟩
theorem RRowR.step {w wr w' : World} {base : Nat} {v v' : Value} {V : List (List Value)} {R : List (List EntR)} {A : Option Addr} {n c : Nat} {es : List EntR} (hv : OV wr base 27 1 v V) (hr : RelV [] (PRowR w wr base) V R) (hx : ROwR w wr base (.slice A n c) es) (hg : wr.grownBy w' v.ownBlock) (hv' : OV w' base 27 1 v' (V ++ [[.slice A n c]])) : RRowR w w' base v' (R ++ [es]) :=
  ⟨_, hv', (hr.mono fun x a ⟨A, n, c, hx, hr⟩ => ⟨A, n, c, hx, hr.other hg hv⟩).snoc ⟨A, n, c, rfl, hx.other hg hv⟩⟩
theorem RRowR.reads {w wr : World} {base : Nat} {v : Value} {R : List (List EntR)} (h : RRowR w wr base v R) (hB : Below w.heap.size w wr) (hm : R.length ≤ 9223372036854775807) (hs : ∀ es ∈ R, es.length ≤ 9223372036854775807) : ∃ A c, v = .slice A R.length c ∧ R.length ≤ c ∧ REnss wr A R.length R := by
  obtain ⟨V, h1, h2⟩ := h
  have hl := h2.1
  rcases Nat.eq_zero_or_pos V.length with h0 | h0
  · obtain ⟨A, c, rfl, hc⟩ := h1.open_
    exact ⟨A, c, by rw [hl], by omega, rfl, hm, fun hn => absurd hn (by omega)⟩
  · obtain ⟨g, c, rfl, _, _, hc⟩ := h1.form h0
    refine ⟨_, c, by rw [hl], by omega, rfl, hm, fun _ => ⟨_, rfl, fun j hj => ?_⟩⟩
    obtain ⟨A, n, d, hx, U, hU, hr⟩ := h2.2 j (by omega)
    have hce := h1.cell (j := j) (i := 0) (by omega) (by omega)
    rw [hx] at hce
    obtain ⟨A', c', e, hc', hr'⟩ := REnts_of hU (hr.mono fun x a hx => hx.below hB) (hs _ (by rw [elt_get [] (by omega)]; exact List.getElem_mem _))
    injection e with e1 e2 e3
    subst e1 e2 e3
    refine ⟨A, _, d, ?_, hr', hc'⟩
    rw [add_plain, Nat.zero_add]
    simpa using hce
def SmE (e : EntR) : Prop := (eKey e).length ≤ 100000 ∧ (eVal e).length ≤ 100000
theorem put_mem {l : List EntR} {e x : EntR} (h : x ∈ putE l e) : x ∈ l ∨ x = e := by
  unfold putE at h
  split at h
  · exact .inl h
  · unfold insE at h
    rw [← pre_suf (eKey e) (eSeq e) l]
    simp only [List.mem_append, List.mem_cons] at h ⊢
    rcases h with h | h | h
    · exact .inl (.inl h)
    · exact .inr h
    · exact .inl (.inr h)
theorem put_len (l : List EntR) (e : EntR) : (putE l e).length ≤ l.length + 1 := by
  unfold putE
  split
  · omega
  · have := congrArg List.length (pre_suf (eKey e) (eSeq e) l)
    rw [List.length_append] at this
    simp only [insE, List.length_append, List.length_cons]
    omega
/-- A sorted row so far. -/
def SoR (w wr : World) (v : Value) (j : Nat) : Prop := ∃ es, ROwR w wr w.heap.size v es ∧ Srt es ∧ es.length ≤ j ∧ (∀ e ∈ es, SmE e) ∧ Below w.heap.size w wr
/-- Sorted rows so far. -/
def SoK (w wr : World) (v : Value) (k S : Nat) : Prop := ∃ R, RRowR w wr w.heap.size v R ∧ R.length = k ∧ (∀ es ∈ R, Srt es ∧ ∀ e ∈ es, SmE e) ∧ totR R ≤ S ∧ Below w.heap.size w wr
theorem SoR.below {w wr w' : World} {v : Value} {j : Nat} (h : SoR w wr v j) (hb : Below wr.heap.size wr w') : SoR w w' v j := by
  obtain ⟨es, h1, h2, h3, h4, h5⟩ := h
  exact ⟨es, h1.below hb, h2, h3, h4, below_then h5 hb⟩
theorem SoR.more {w wr : World} {v : Value} {j : Nat} (h : SoR w wr v j) : SoR w wr v (j + 1) := by
  obtain ⟨es, h1, h2, h3, h4, h5⟩ := h
  exact ⟨es, h1, h2, by omega, h4, h5⟩
theorem SoK.below {w wr w' : World} {v : Value} {k S : Nat} (h : SoK w wr v k S) (hb : Below wr.heap.size wr w') : SoK w w' v k S := by
  obtain ⟨R, h1, h2, h3, h4, h5⟩ := h
  exact ⟨R, h1.below hb, h2, h3, h4, below_then h5 hb⟩
/-- What sorted leaves. -/
def SortedC (w w' : World) (n S : Nat) (r : Ending) : Prop := ∃ A c R, r = .returned (.slice A n c) ∧ n ≤ c ∧ REnss w' A n R ∧ (∀ es ∈ R, Srt es ∧ ∀ e ∈ es, SmE e) ∧ totR R ≤ S ∧ Below w.heap.size w w'
theorem SoK.done {w wr : World} {v : Value} {k S : Nat} (h : SoK w wr v k S) (hk : k ≤ 9223372036854775807) (hS : S ≤ 100000) : SortedC w wr k S (.returned v) := by
  obtain ⟨R, h1, h2, h3, h4, h5⟩ := h
  have hle : ∀ (R : List (List EntR)), ∀ es ∈ R, es.length ≤ totR R := by
    intro R
    induction R with
    | nil => intro es h; cases h
    | cons x R ih =>
      intro es h
      rcases List.mem_cons.1 h with rfl | h
      · simp [totR]
      · have := ih es h; simp [totR]; omega
  obtain ⟨A, c, rfl, hc, hr⟩ := h1.reads h5 (by omega) (fun es hes => by have := hle R es hes; omega)
  rw [h2] at hr hc ⊢
  exact ⟨A, c, R, rfl, hc, hr, h3, h4, h5⟩
theorem SoR.put {w wx : World} {v' : Value} {j : Nat} {es : List EntR} {e : EntR} {V' : List (List Value)} (hs : Srt es) (hl : es.length ≤ j) (hm : ∀ e ∈ es, SmE e) (he : SmE e) (hv : OV wx w.heap.size 35 5 v' V') (hr : RelV noEnt (PER w) V' (putE es e)) (hb : Below w.heap.size w wx) : SoR w wx v' (j + 1) :=
  ⟨putE es e, ⟨V', hv, hr⟩, put_srt hs, by have := put_len es e; omega, fun x hx => (put_mem hx).elim (hm x) (fun h => by rw [h]; exact he), hb⟩
end Go.Proofs.Ytnjhiiakpndnnaa
