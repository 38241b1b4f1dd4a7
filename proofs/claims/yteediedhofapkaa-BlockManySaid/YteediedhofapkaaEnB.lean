/- Rows of entries, in plain terms and in memory. -/
import Derived.Test.YteediedhofapkaaMmM
import Derived.Test.YteediedhofapkaaOV
import Derived.Laws.ResultCell
namespace Go.Proofs.Yteediedhofapkaa
open Go.RowKit
set_option linter.unusedVariables false
set_option linter.unusedSimpArgs false

theorem entry5 : (Try.prog.info? 26).map (·.size) = some 5 := by kernel_rfl
theorem set5 {wr : World} {b : Nat} {a0 a1 a2 a3 a4 : Value} {T : TypeId} (c0 c1 c2 c3 c4 : Value) (h : wr.heap[b]? = some (.cells #[a0, a1, a2, a3, a4] T (0, 0))) : (((((wr.setCell ⟨b, 0, none⟩ c0).setCell ⟨b, 1, none⟩ c1).setCell ⟨b, 2, none⟩ c2).setCell ⟨b, 3, none⟩ c3).setCell ⟨b, 4, none⟩ c4).heap[b]? = some (.cells #[c0, c1, c2, c3, c4] T (0, 0)) := by
  have h1 := heap_setCell_same wr b 0 _ _ c0 h
  have h2 := heap_setCell_same _ b 1 _ _ c1 h1
  have h3 := heap_setCell_same _ b 2 _ _ c2 h2
  have h4 := heap_setCell_same _ b 3 _ _ c3 h3
  have h5 := heap_setCell_same _ b 4 _ _ c4 h4
  exact h5
theorem grown_set5 (wr : World) (b : Nat) (c0 c1 c2 c3 c4 : Value) : wr.grownBy (((((wr.setCell ⟨b, 0, none⟩ c0).setCell ⟨b, 1, none⟩ c1).setCell ⟨b, 2, none⟩ c2).setCell ⟨b, 3, none⟩ c3).setCell ⟨b, 4, none⟩ c4) (some b) :=
  grown_trans (grown_trans (grown_trans (grown_trans (grown_set _ _ _ _) (grown_set _ _ _ _)) (grown_set _ _ _ _)) (grown_set _ _ _ _)) (grown_set _ _ _ _)
theorem results_box2 {P : Program} {fn : Func} {p u : Tmp} {ty : TypeId} (h : fn.results = #[.cell p ty, .tmp u]) (tmps : Array Value) (w : World) (g : Nat) (t : TypeId) (cs : Array Value) (fr : Nat × Nat) (d : TypeDesc)
    (hp : tmps.getD p undef = .pointer (some ⟨g, 0, none⟩)) (hg : w.heap[g]? = some (.cells cs t fr))
    (hu : P.underlying ty = some d) (hd : (match d with | .struct _ | .array _ _ => true | _ => false) = true) (hi : (P.info? ty).map (·.size) = some cs.size) :
    (results fn tmps).run P w = .ok (.tuple #[.agg cs, tmps.getD u undef]) w := by
  rw [results_cell_tmp h, hp]
  simp [asAddr, run_loadVar_row w g t ty cs fr d hg hu hd hi]
theorem eninfo : (Try.prog.info? 26).map (fun i => (i.zero, i.size, i.bytes)) = some (some (.agg #[.slice none 0 0, .int .i64 0, .bool false, .int .i64 0, .slice none 0 0]), 5, 72) := by kernel_rfl
theorem ones5 {a b c d f : Value} (ha : a.oneCell' = true) (hb : b.oneCell' = true) (hc : c.oneCell' = true) (hd : d.oneCell' = true) (hf : f.oneCell' = true) : ∀ u ∈ (#[a, b, c, d, f] : Array Value).toList, u.oneCell' = true := by
  intro u hu
  simp only [List.mem_cons, List.not_mem_nil, or_false] at hu
  rcases hu with rfl | rfl | rfl | rfl | rfl <;> assumption
/-- An entry's cells, its bytes one's own. -/
def PEo (w : World) (base : Nat) (x : List Value) (e : EntR) : Prop :=
  ∃ kv vv, x = [kv, .int .i64 (eSeq e), .bool (eGone e), .int .i64 (eTil e), vv] ∧ OB w base kv (eKey e) ∧ OB w base vv (eVal e)
theorem PEo.grown {w w' : World} {base base' : Nat} {v : Value} {V : List (List Value)} {x : List Value} {e : EntR} (h : PEo w base x e) (hg : w.grownBy w' v.ownBlock) (hv : OV w base' 26 5 v V) : PEo w' base x e := by
  obtain ⟨kv, vv, hx, h1, h2⟩ := h
  exact ⟨kv, vv, hx, h1.other hg (h1.apart_row hv (by decide)), h2.other hg (h2.apart_row hv (by decide))⟩
theorem PEo.below {w w' : World} {base : Nat} {x : List Value} {e : EntR} (h : PEo w base x e) (hb : Below w.heap.size w w') : PEo w' base x e := by
  obtain ⟨kv, vv, hx, h1, h2⟩ := h
  exact ⟨kv, vv, hx, h1.below hb, h2.below hb⟩
theorem PEo.mono {w : World} {base base' : Nat} {x : List Value} {e : EntR} (h : PEo w base x e) (hb : base' ≤ base) : PEo w base' x e := by
  obtain ⟨kv, vv, hx, h1, h2⟩ := h
  exact ⟨kv, vv, hx, h1.mono hb, h2.mono hb⟩
/-- A row of entries, all of it one's own. -/
def ROw (w : World) (base : Nat) (v : Value) (es : List EntR) : Prop := ∃ V, OV w base 26 5 v V ∧ RelV noEnt (PEo w base) V es
theorem ROw.nil (w : World) (base : Nat) : ROw w base (.slice none 0 0) [] := ⟨[], OV.nil _ _ _ _, RelV.nil⟩
theorem ROw.below {w w' : World} {base : Nat} {v : Value} {es : List EntR} (h : ROw w base v es) (hb : Below w.heap.size w w') : ROw w' base v es := by
  obtain ⟨V, h1, h2⟩ := h
  exact ⟨V, h1.below hb, h2.mono fun x a hx => hx.below hb⟩
theorem row_step {wr w4 w3 : World} {base : Nat} {v kv vv : Value} {V : List (List Value)} {es : List EntR} {e : EntR} (hb4 : Below wr.heap.size wr w4) (hown : OV wr base 26 5 v V) (hrel : RelV noEnt (PEo wr base) V es) (hbase : base ≤ wr.heap.size)
    (ok : OB w4 wr.heap.size kv (eKey e)) (ov : OB w4 wr.heap.size vv (eVal e)) (hg : w4.grownBy w3 v.ownBlock) : RelV noEnt (PEo w3 base) (V ++ [[kv, .int .i64 (eSeq e), .bool (eGone e), .int .i64 (eTil e), vv]]) (es ++ [e]) :=
  RelV.snoc (hrel.mono fun x a hx => (hx.below hb4).grown hg (hown.below hb4)) ⟨kv, vv, rfl, OB.mono (ok.other hg (ok.apart_row (hown.below hb4) (by decide))) hbase, OB.mono (ov.other hg (ov.apart_row (hown.below hb4) (by decide))) hbase⟩
/-- An entry's cells at an address. -/
def EnC (w : World) (ad : Addr) (e : EntR) : Prop := ∃ Ak nk ck Av nv cv, w.cell? ad = some (.slice Ak nk ck) ∧ w.cell? ⟨ad.block, ad.off + 1, none⟩ = some (.int .i64 (eSeq e)) ∧ w.cell? ⟨ad.block, ad.off + 2, none⟩ = some (.bool (eGone e)) ∧ w.cell? ⟨ad.block, ad.off + 3, none⟩ = some (.int .i64 (eTil e)) ∧ w.cell? ⟨ad.block, ad.off + 4, none⟩ = some (.slice Av nv cv) ∧
  RB w Ak nk (eKey e) ∧ RB w Av nv (eVal e) ∧ nk ≤ ck ∧ nv ≤ cv
theorem EnC.below {w w' : World} {ad : Addr} {e : EntR} (h : EnC w ad e) (hb : Below w.heap.size w w') : EnC w' ad e := by
  obtain ⟨Ak, nk, ck, Av, nv, cv, h0, h1, h2, h3, h4, h5, h6, h7, h8⟩ := h
  exact ⟨Ak, nk, ck, Av, nv, cv, below_cell hb h0, below_cell hb h1, below_cell hb h2, below_cell hb h3, below_cell hb h4, h5.below hb, h6.below hb, h7, h8⟩
def REnts (w : World) (A : Option Addr) (n : Nat) (es : List EntR) : Prop :=
  es.length = n ∧ n ≤ 9223372036854775807 ∧ (0 < n → ∃ ad, A = some ad ∧ ∀ j, j < n → EnC w (ad.add (j * 5)) (elt noEnt es j))
theorem REnts.at_ {w : World} {A : Option Addr} {n : Nat} {es : List EntR} (h : REnts w A n es) {j : Nat} (hj : j < n) : ∃ ad, A = some ad ∧ EnC w (ad.add (j * 5)) (elt noEnt es j) := by
  obtain ⟨ad, e, hc⟩ := h.2.2 (by omega)
  exact ⟨ad, e, hc j hj⟩
theorem REnts.below {w w' : World} {A : Option Addr} {n : Nat} {es : List EntR} (h : REnts w A n es) (hb : Below w.heap.size w w') : REnts w' A n es :=
  ⟨h.1, h.2.1, fun hn => by
    obtain ⟨ad, e, hc⟩ := h.2.2 hn
    exact ⟨ad, e, fun j hj => (hc j hj).below hb⟩⟩
theorem REnts.nil (w : World) : REnts w none 0 [] := ⟨rfl, by decide, fun h => absurd h (by omega)⟩
/-- An entry's cells, its bytes read in a world. -/
def PER (w : World) (x : List Value) (e : EntR) : Prop :=
  ∃ Ak nk ck Av nv cv, x = [.slice Ak nk ck, .int .i64 (eSeq e), .bool (eGone e), .int .i64 (eTil e), .slice Av nv cv] ∧ RB w Ak nk (eKey e) ∧ RB w Av nv (eVal e) ∧ nk ≤ ck ∧ nv ≤ cv
theorem PEo.reads {w : World} {base : Nat} {x : List Value} {e : EntR} (h : PEo w base x e) : PER w x e := by
  obtain ⟨kv, vv, rfl, h1, h2⟩ := h
  obtain ⟨Ak, ck, rfl, hrk, hck⟩ := h1.open_
  obtain ⟨Av, cv, rfl, hrv, hcv⟩ := h2.open_
  exact ⟨Ak, _, ck, Av, _, cv, rfl, hrk, hrv, hck, hcv⟩
theorem PER.below {w w' : World} {x : List Value} {e : EntR} (h : PER w x e) (hb : Below w.heap.size w w') : PER w' x e := by
  obtain ⟨Ak, nk, ck, Av, nv, cv, e, h1, h2, h3, h4⟩ := h
  exact ⟨Ak, nk, ck, Av, nv, cv, e, h1.below hb, h2.below hb, h3, h4⟩
theorem REnts_of {w : World} {base : Nat} {v : Value} {V : List (List Value)} {es : List EntR} (h : OV w base 26 5 v V) (hr : RelV noEnt (PER w) V es) (hm : es.length ≤ 9223372036854775807) :
    ∃ A c, v = .slice A es.length c ∧ es.length ≤ c ∧ REnts w A es.length es := by
  have hl := hr.1
  rcases Nat.eq_zero_or_pos V.length with h0 | h0
  · obtain ⟨A, c, rfl, hc⟩ := h.open_
    exact ⟨A, c, by rw [hl], by omega, rfl, hm, fun hn => absurd hn (by omega)⟩
  · obtain ⟨g, c, rfl, _, _, hc⟩ := h.form h0
    refine ⟨_, c, by rw [hl], by omega, rfl, hm, fun _ => ⟨_, rfl, fun j hj => ?_⟩⟩
    obtain ⟨Ak, nk, ck, Av, nv, cv, hx, h1, h2, h3, h4⟩ := hr.2 j (by omega)
    have hc5 := fun i (hi : i < 5) => h.cell (j := j) (i := i) (by omega) hi
    rw [hx] at hc5
    rw [add_plain, Nat.zero_add]
    exact ⟨Ak, nk, ck, Av, nv, cv, hc5 0 (by omega), hc5 1 (by omega), hc5 2 (by omega), hc5 3 (by omega), hc5 4 (by omega), h1, h2, h3, h4⟩
theorem ROw.len {w : World} {base : Nat} {v : Value} {es : List EntR} (h : ROw w base v es) (hm : es.length ≤ 9223372036854775807) : ∃ A c, v = .slice A es.length c ∧ es.length ≤ c ∧ REnts w A es.length es := by
  obtain ⟨V, h1, h2⟩ := h
  exact REnts_of h1 (h2.mono fun x a hx => hx.reads) hm
theorem cmpB_nil_right (xs : List UInt8) : 0 ≤ cmpB xs [] := by
  cases xs with
  | nil => decide
  | cons x xs =>
    show (0 : Int) ≤ 1
    decide
theorem mayN_cases {nk nv : Nat} {s u : Int} {g : Bool} (h : mayN nk s g u nv = true) : 1 ≤ nk ∧ nk ≤ 512 ∧ nv ≤ 2048 ∧ 1 ≤ s ∧ s ≤ 4611686018427387904 := by
  unfold mayN at h
  rw [decide_eq_true_iff] at h
  exact ⟨h.1, h.2.1, h.2.2.1, h.2.2.2.1, h.2.2.2.2.1⟩
theorem mayE_cases {e : EntR} (h : mayE e = true) : 1 ≤ (eKey e).length ∧ (eKey e).length ≤ 512 ∧ (eVal e).length ≤ 2048 ∧ 1 ≤ eSeq e ∧ eSeq e ≤ 4611686018427387904 := mayN_cases h
theorem elt_mem {es : List EntR} {k : Nat} (h : k < es.length) : elt noEnt es k ∈ es := by
  unfold elt
  simp [h]
theorem drop_elt {es : List EntR} {k : Nat} (h : k < es.length) : es.drop k = elt noEnt es k :: es.drop (k + 1) := by
  rw [List.drop_eq_getElem_cons h]
  unfold elt
  simp [h]
end Go.Proofs.Yteediedhofapkaa
