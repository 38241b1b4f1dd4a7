/- Layer 9: rows of entries that are read; All, Latest. -/
import Derived.Test.YtlfjbklagljdlaaDoorMmE
namespace Go.Proofs.YtlfjbklagljdlaaDoor
open Go.RowKit
set_option linter.unusedVariables false
set_option linter.unusedSimpArgs false

/-- An entry's cells at an address. -/
def EnC (w : World) (ad : Addr) (e : EntR) : Prop := ∃ Ak nk ck Av nv cv, w.cell? ad = some (.slice Ak nk ck) ∧ w.cell? ⟨ad.block, ad.off + 1, none⟩ = some (.int .i64 (eSeq e)) ∧ w.cell? ⟨ad.block, ad.off + 2, none⟩ = some (.bool (eGone e)) ∧ w.cell? ⟨ad.block, ad.off + 3, none⟩ = some (.int .i64 (eTil e)) ∧ w.cell? ⟨ad.block, ad.off + 4, none⟩ = some (.slice Av nv cv) ∧
  RB w Ak nk (eKey e) ∧ RB w Av nv (eVal e) ∧ nk ≤ ck ∧ nv ≤ cv
theorem EnC.below {w w' : World} {ad : Addr} {e : EntR} (h : EnC w ad e) (hb : Below w.heap.size w w') : EnC w' ad e := by
  obtain ⟨Ak, nk, ck, Av, nv, cv, h0, h1, h2, h3, h4, h5, h6, h7, h8⟩ := h
  exact ⟨Ak, nk, ck, Av, nv, cv, below_cell hb h0, below_cell hb h1, below_cell hb h2, below_cell hb h3, below_cell hb h4, h5.below hb, h6.below hb, h7, h8⟩
def REnts (w : World) (A : Option Addr) (n : Nat) (es : List EntR) : Prop :=
  es.length = n ∧ n ≤ 9223372036854775807 ∧ (0 < n → ∃ ad, A = some ad ∧ ∀ j, j < n → EnC w (ad.add (j * 5)) (elt noEnt es j))
theorem REnts.at_ {w : World} {A : Option Addr} {n : Nat} {es : List EntR} (h : REnts w A n es) {j : Nat} (hj : j < n) : ∃ ad, A = some ad ∧ EnC w (ad.add (j * 5)) (elt noEnt es j) := by
  obtain ⟨ad, e, hc⟩ := h.2.2 (by omega)
  exact ⟨ad, e, hc j hj⟩
theorem REnts.below {w w' : World} {A : Option Addr} {n : Nat} {es : List EntR} (h : REnts w A n es) (hb : Below w.heap.size w w') : REnts w' A n es :=
  ⟨h.1, h.2.1, fun hn => by
    obtain ⟨ad, e, hc⟩ := h.2.2 hn
    exact ⟨ad, e, fun j hj => (hc j hj).below hb⟩⟩
theorem REnts.nil (w : World) : REnts w none 0 [] := ⟨rfl, by decide, fun h => absurd h (by omega)⟩
/-- An entry's cells, its bytes read in a world. -/
def PER (w : World) (x : List Value) (e : EntR) : Prop :=
  ∃ Ak nk ck Av nv cv, x = [.slice Ak nk ck, .int .i64 (eSeq e), .bool (eGone e), .int .i64 (eTil e), .slice Av nv cv] ∧ RB w Ak nk (eKey e) ∧ RB w Av nv (eVal e) ∧ nk ≤ ck ∧ nv ≤ cv
theorem PEo.reads {w : World} {base : Nat} {x : List Value} {e : EntR} (h : PEo w base x e) : PER w x e := by
  obtain ⟨kv, vv, rfl, h1, h2⟩ := h
  obtain ⟨Ak, ck, rfl, hrk, hck⟩ := h1.open_
  obtain ⟨Av, cv, rfl, hrv, hcv⟩ := h2.open_
  exact ⟨Ak, _, ck, Av, _, cv, rfl, hrk, hrv, hck, hcv⟩
theorem PER.below {w w' : World} {x : List Value} {e : EntR} (h : PER w x e) (hb : Below w.heap.size w w') : PER w' x e := by
  obtain ⟨Ak, nk, ck, Av, nv, cv, e, h1, h2, h3, h4⟩ := h
  exact ⟨Ak, nk, ck, Av, nv, cv, e, h1.below hb, h2.below hb, h3, h4⟩
theorem REnts_of {w : World} {base : Nat} {v : Value} {V : List (List Value)} {es : List EntR} (h : OV w base 28 5 v V) (hr : RelV noEnt (PER w) V es) (hm : es.length ≤ 9223372036854775807) :
    ∃ A c, v = .slice A es.length c ∧ es.length ≤ c ∧ REnts w A es.length es := by
  have hl := hr.1
  rcases Nat.eq_zero_or_pos V.length with h0 | h0
  · obtain ⟨A, c, rfl, hc⟩ := h.open_
    exact ⟨A, c, by rw [hl], by omega, rfl, hm, fun hn => absurd hn (by omega)⟩
  · obtain ⟨g, c, rfl, _, _, hc⟩ := h.form h0
    refine ⟨_, c, by rw [hl], by omega, rfl, hm, fun _ => ⟨_, rfl, fun j hj => ?_⟩⟩
    obtain ⟨Ak, nk, ck, Av, nv, cv, hx, h1, h2, h3, h4⟩ := hr.2 j (by omega)
    have hc5 := fun i (hi : i < 5) => h.cell (j := j) (i := i) (by omega) hi
    rw [hx] at hc5
    rw [add_plain, Nat.zero_add]
    exact ⟨Ak, nk, ck, Av, nv, cv, hc5 0 (by omega), hc5 1 (by omega), hc5 2 (by omega), hc5 3 (by omega), hc5 4 (by omega), h1, h2, h3, h4⟩
theorem ROw.len {w : World} {base : Nat} {v : Value} {es : List EntR} (h : ROw w base v es) (hm : es.length ≤ 9223372036854775807) : ∃ A c, v = .slice A es.length c ∧ es.length ≤ c ∧ REnts w A es.length es := by
  obtain ⟨V, h1, h2⟩ := h
  exact REnts_of h1 (h2.mono fun x a hx => hx.reads) hm
theorem cutTo_nil (es : List EntR) : cutTo [] es = es := by
  induction es with
  | nil => rfl
  | cons x l ih => rw [cutTo_cons (.inl rfl), ih]
theorem cmpB_nil_right (xs : List UInt8) : 0 ≤ cmpB xs [] := by
  cases xs with
  | nil => decide
  | cons x xs =>
    show (0 : Int) ≤ 1
    decide
theorem mayE_cases {e : EntR} (h : mayE e = true) : 1 ≤ (eKey e).length ∧ (eKey e).length ≤ 512 ∧ (eVal e).length ≤ 2048 ∧ 1 ≤ eSeq e ∧ eSeq e ≤ 4611686018427387904 := mayN_cases h
theorem sufK_all {es : List EntR} (h : ∀ x ∈ es, mayE x = true) : sufK [] topS es = es := by
  cases es with
  | nil => rfl
  | cons x l =>
    have hm := mayE_cases (h x (by simp))
    have hx : aheadK x [] topS = false := by
      rw [aheadK_not]
      have h0 := cmpB_nil_right (eKey x)
      by_cases hk : eKey x = []
      · exact .inr ⟨hk, by unfold topS; omega⟩
      · have : cmpB (eKey x) [] ≠ 0 := fun e => hk ((cmpB_zero _ _).1 e)
        exact .inl (by omega)
    rw [sufK, hx]
    rfl
theorem listE_all {es : List EntR} (h : ∀ x ∈ es, mayE x = true) : listE es [] [] = es := by unfold listE; rw [cutTo_nil, sufK_all h]
set_option maxHeartbeats 4000000 in
theorem all_any (base bm : Nat) (l : List NodeR) (w : World) (h : MemL w base bm l) (hl : l.length ≤ 1000) : Calls Tryd.prog 21 #[.pointer (some ⟨bm, 0, none⟩)] w fun r w' => ListC w w' (l.map nEnt) r := by
  have HL := hid (list_any base bm l none 0 0 [] none 0 0 [] w h (RB.nil _) (RB.nil _) hl)
  have HE := hid (listE_all h.mayE)
  clear h hl
  go_enter Tryd.func21, Tryd.ntmps21
  go_wp2_with (go_at_call 19; (with_reducible refine HL.out.mono ?_); rintro r w2 ⟨v, rfl, hv, hb⟩)
  go_ret
  exact ⟨v, rfl, by rw [HE.out] at hv; exact hv, hb⟩
set_option maxHeartbeats 4000000 in
theorem all_none (w : World) : Calls Tryd.prog 21 #[.pointer none] w fun r w' => r = .returned (.slice none 0 0) ∧ w = w' := by
  go_enter Tryd.func21, Tryd.ntmps21
  go_wp2_with (go_at_call 19; (with_reducible refine (list_none none 0 0 none 0 0 _).mono ?_); rintro r w2 ⟨rfl, rfl⟩)
  go_ret
  exact ⟨rfl, rfl⟩
/-- Of each key the newest up to a number, without what is gone; `last`: the key that was there last. -/
def latF (s : Int) : List UInt8 → List EntR → List EntR
  | _, [] => []
  | last, x :: l => if s < eSeq x ∨ (last ≠ [] ∧ last = eKey x) then latF s last l else (if eGone x = true then latF s (eKey x) l else x :: latF s (eKey x) l)
def latestE (es : List EntR) (frm tk : List UInt8) (s : Int) : List EntR := latF s [] (listE es frm tk)
theorem latF_skip {s : Int} {last : List UInt8} {x : EntR} {l : List EntR} (h : s < eSeq x ∨ (last ≠ [] ∧ last = eKey x)) : latF s last (x :: l) = latF s last l := by rw [latF, if_pos h]
theorem latF_gone {s : Int} {last : List UInt8} {x : EntR} {l : List EntR} (h : ¬ (s < eSeq x ∨ (last ≠ [] ∧ last = eKey x))) (hg : eGone x = true) : latF s last (x :: l) = latF s (eKey x) l := by rw [latF, if_neg h, if_pos hg]
theorem latF_take {s : Int} {last : List UInt8} {x : EntR} {l : List EntR} (h : ¬ (s < eSeq x ∨ (last ≠ [] ∧ last = eKey x))) (hg : eGone x = false) : latF s last (x :: l) = x :: latF s (eKey x) l := by rw [latF, if_neg h, hg]; rfl
theorem sufK_sub {key : List UInt8} {s : Int} {es : List EntR} : ∀ x ∈ sufK key s es, x ∈ es := by
  intro x hx
  have := pre_suf key s es
  rw [← this]
  exact List.mem_append_right _ hx
theorem cutTo_sub {tk : List UInt8} {es : List EntR} : ∀ x ∈ cutTo tk es, x ∈ es := by
  induction es with
  | nil => intro x h; cases h
  | cons y l ih =>
    intro x hx
    rw [cutTo] at hx
    split at hx
    · rcases List.mem_cons.1 hx with rfl | hx
      · simp
      · exact List.mem_cons_of_mem _ (ih x hx)
    · cases hx
theorem cutTo_len (tk : List UInt8) (es : List EntR) : (cutTo tk es).length ≤ es.length := by
  induction es with
  | nil => exact Nat.le_refl _
  | cons y l ih =>
    rw [cutTo]
    split
    · simp; exact ih
    · simp
theorem sufK_len (key : List UInt8) (s : Int) (es : List EntR) : (sufK key s es).length ≤ es.length := by
  have := congrArg List.length (pre_suf key s es)
  rw [List.length_append] at this
  omega
theorem listE_len (es : List EntR) (frm tk : List UInt8) : (listE es frm tk).length ≤ es.length := Nat.le_trans (cutTo_len _ _) (sufK_len _ _ _)
theorem listE_sub {es : List EntR} {frm tk : List UInt8} : ∀ x ∈ listE es frm tk, x ∈ es := fun x hx => sufK_sub x (cutTo_sub x hx)
theorem elt_mem {es : List EntR} {k : Nat} (h : k < es.length) : elt noEnt es k ∈ es := by
  unfold elt
  simp [h]
theorem drop_elt {es : List EntR} {k : Nat} (h : k < es.length) : es.drop k = elt noEnt es k :: es.drop (k + 1) := by
  rw [List.drop_eq_getElem_cons h]
  unfold elt
  simp [h]
end Go.Proofs.YtlfjbklagljdlaaDoor
