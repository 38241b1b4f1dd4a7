/- Layer 16: rows that are merged, in plain terms; rows of rows in memory. -/
import Derived.Test.YtnjhiiakpndnnaaMgE
namespace Go.Proofs.Ytnjhiiakpndnnaa
open Go.RowKit
set_option linter.unusedVariables false
set_option linter.unusedSimpArgs false

abbrev er (R : List (List EntR)) (r : Nat) : List EntR := elt [] R r
/-- Heads that stand for what is left of rows. -/
structure HdRep (H : List HeadR) (R : List (List EntR)) : Prop where
  is : ∀ h ∈ H, hRow h < R.length ∧ hL h = er R (hRow h) ∧ hL h ≠ []
  all : ∀ r, r < R.length → er R r ≠ [] → ∃ h ∈ H, hRow h = r
  nodup : (H.map hRow).Nodup
theorem HdRep.perm {H H' : List HeadR} {R : List (List EntR)} (h : HdRep H R) (hp : H'.Perm H) : HdRep H' R :=
  ⟨fun x hx => h.is x (hp.mem_iff.1 hx), fun r h1 h2 => by
    obtain ⟨x, hx, e⟩ := h.all r h1 h2
    exact ⟨x, hp.mem_iff.2 hx, e⟩, (hp.map hRow).nodup_iff.2 h.nodup⟩
/-- Rows are merged to a row: at each step the head that is ahead of all others. -/
def MRel : List (List EntR) → List EntR → Prop
  | R, [] => ∀ r, r < R.length → er R r = []
  | R, x :: out => ∃ b, b < R.length ∧ er R b ≠ [] ∧ x = elt noEnt (er R b) 0 ∧ (∀ r, r < R.length → er R r ≠ [] → r ≠ b → LessH (mkHd (er R b) b) (mkHd (er R r) r)) ∧ MRel (R.set b (er R b).tail) out
theorem MRel.unique : ∀ {a b : List EntR} {R : List (List EntR)}, MRel R a → MRel R b → a = b := by
  intro a
  induction a with
  | nil =>
    intro b R ha hb
    cases b with
    | nil => rfl
    | cons y b =>
      obtain ⟨r, h1, h2, _⟩ := hb
      exact absurd (ha r h1) h2
  | cons x a ih =>
    intro b R ha hb
    obtain ⟨i, h1, h2, h3, h4, h5⟩ := ha
    cases b with
    | nil => exact absurd (hb i h1) h2
    | cons y b =>
      obtain ⟨j, k1, k2, k3, k4, k5⟩ := hb
      by_cases hij : i = j
      · subst hij
        rw [h3, k3, ih h5 k5]
      · exact absurd (k4 i h1 h2 hij) (h4 j k1 k2 (fun e => hij e.symm)).asym
def totR : List (List EntR) → Nat
  | [] => 0
  | l :: R => l.length + totR R
theorem totR_app (R S : List (List EntR)) : totR (R ++ S) = totR R + totR S := by
  induction R with
  | nil => simp [totR]
  | cons l R ih => rw [List.cons_append, totR, totR, ih]; omega
theorem totR_set {R : List (List EntR)} {b : Nat} (hb : b < R.length) (l : List EntR) : totR (R.set b l) + (er R b).length = totR R + l.length := by
  induction R generalizing b with
  | nil => simp at hb
  | cons x R ih =>
    cases b with
    | zero => simp [totR, er, elt]; omega
    | succ b =>
      have := ih (b := b) (by simpa using hb)
      simp only [List.set_cons_succ, totR]
      have e : er (x :: R) (b + 1) = er R b := by simp [er, elt]
      rw [e]
      omega
theorem er_set {R : List (List EntR)} {b r : Nat} (hb : b < R.length) (l : List EntR) : er (R.set b l) r = if r = b then l else er R r := elt_set [] R b r l hb
/-- One step: of the heads the one on top. -/
theorem MRel.step {H : List HeadR} {R : List (List EntR)} {h : HeadR} (hr : HdRep H R) (hm : h ∈ H) (ht : ∀ x ∈ H, ¬ LessH x h) {out : List EntR} (ho : MRel (R.set (hRow h) (hL h).tail) out) : MRel R (hE h :: out) := by
  obtain ⟨h1, h2, h3⟩ := hr.is h hm
  refine ⟨hRow h, h1, by rw [← h2]; exact h3, by rw [← h2]; rfl, fun r k1 k2 k3 => ?_, by rw [← h2]; exact ho⟩
  obtain ⟨x, hx, hxr⟩ := hr.all r k1 k2
  obtain ⟨x1, x2, x3⟩ := hr.is x hx
  have e1 : mkHd (er R r) r = x := by rw [← hxr, ← x2]; rfl
  have e2 : mkHd (er R (hRow h)) (hRow h) = h := by rw [← h2]; rfl
  rw [e1, e2]
  by_cases hl : LessH h x
  · exact hl
  · obtain ⟨_, e⟩ := LessH.total (ht x hx) hl
    exact absurd (hxr.symm.trans e) k3
theorem MRel.done {H : List HeadR} {R : List (List EntR)} (hr : HdRep H R) (h0 : H = []) : MRel R [] := by
  intro r hr1
  cases hq : er R r with
  | nil => rfl
  | cons x l =>
    obtain ⟨x, hx, _⟩ := hr.all r hr1 (by rw [hq]; simp)
    rw [h0] at hx
    cases hx
/-- The head on top goes on. -/
theorem HdRep.next {H : List HeadR} {R : List (List EntR)} {h : HeadR} {T : List HeadR} (hr : HdRep (h :: T) R) (hn : (hL h).tail ≠ []) : HdRep (mkHd (hL h).tail (hRow h) :: T) (R.set (hRow h) (hL h).tail) := by
  obtain ⟨h1, h2, h3⟩ := hr.is h (by simp)
  have hnd := hr.nodup
  rw [List.map_cons, List.nodup_cons] at hnd
  refine ⟨fun x hx => ?_, fun r k1 k2 => ?_, ?_⟩
  · rw [List.length_set, er_set h1]
    rcases List.mem_cons.1 hx with rfl | hx
    · exact ⟨h1, by show (hL h).tail = _; rw [if_pos (show hRow (mkHd (hL h).tail (hRow h)) = hRow h from rfl)], hn⟩
    · obtain ⟨x1, x2, x3⟩ := hr.is x (by simp [hx])
      rw [if_neg (fun e => hnd.1 (by rw [← e]; exact List.mem_map_of_mem hx))]
      exact ⟨x1, x2, x3⟩
  · rw [List.length_set] at k1
    rw [er_set h1] at k2
    by_cases e : r = hRow h
    · exact ⟨mkHd (hL h).tail (hRow h), by simp, e.symm⟩
    · rw [if_neg e] at k2
      obtain ⟨x, hx, hxr⟩ := hr.all r k1 k2
      rcases List.mem_cons.1 hx with rfl | hx
      · exact absurd hxr.symm e
      · exact ⟨x, by simp [hx], hxr⟩
  · rw [List.map_cons, List.nodup_cons]
    exact hnd
/-- The head on top is at its end. -/
theorem HdRep.gone {R : List (List EntR)} {h : HeadR} {T : List HeadR} (hr : HdRep (h :: T) R) (hn : (hL h).tail = []) : HdRep T (R.set (hRow h) (hL h).tail) := by
  obtain ⟨h1, h2, h3⟩ := hr.is h (by simp)
  have hnd := hr.nodup
  rw [List.map_cons, List.nodup_cons] at hnd
  refine ⟨fun x hx => ?_, fun r k1 k2 => ?_, hnd.2⟩
  · rw [List.length_set, er_set h1]
    obtain ⟨x1, x2, x3⟩ := hr.is x (by simp [hx])
    rw [if_neg (fun e => hnd.1 (by rw [← e]; exact List.mem_map_of_mem hx))]
    exact ⟨x1, x2, x3⟩
  · rw [List.length_set] at k1
    rw [er_set h1] at k2
    by_cases e : r = hRow h
    · rw [if_pos e] at k2
      exact absurd hn k2
    · rw [if_neg e] at k2
      obtain ⟨x, hx, hxr⟩ := hr.all r k1 k2
      rcases List.mem_cons.1 hx with rfl | hx
      · exact absurd hxr.symm e
      · exact ⟨x, hx, hxr⟩
/-- The last in the first one's place. -/
theorem last_first {α : Type} (d : α) (h : α) (T : List α) (hT : T ≠ []) : (((h :: T).set 0 (elt d (h :: T) T.length)).take T.length).Perm T := by
  obtain ⟨I, x, rfl⟩ : ∃ I x, T = I ++ [x] := ⟨T.dropLast, T.getLast hT, (List.dropLast_concat_getLast hT).symm⟩
  have e : elt d (h :: (I ++ [x])) (I ++ [x]).length = x := by
    unfold elt
    simp
  rw [e, List.set_cons_zero]
  have : (x :: (I ++ [x])).take (I ++ [x]).length = x :: I := by simp
  rw [this]
  exact (List.perm_append_singleton x I).symm
theorem HF.set0 {H : List HeadR} (h : HF H 0) (x : HeadR) : HF (H.set 0 x) (0 + 1) := by
  intro k h1 h2 h3
  rw [List.length_set] at h2
  have e1 : eh (H.set 0 x) k = eh H k := by rw [eh, elt_set noHd H 0 k x (by omega), if_neg (by omega)]
  have e2 : eh (H.set 0 x) ((k - 1) / 2) = eh H ((k - 1) / 2) := by rw [eh, elt_set noHd H 0 _ x (by omega), if_neg (by omega)]
  rw [e1, e2]
  exact h k h1 h2 (by omega)
/-! ## The heads of the first rows -/
def hdsK (R : List (List EntR)) : Nat → List HeadR
  | 0 => []
  | k + 1 => if er R k = [] then hdsK R k else hdsK R k ++ [mkHd (er R k) k]
theorem hdsK_row {R : List (List EntR)} {k : Nat} : ∀ h ∈ hdsK R k, hRow h < k ∧ hL h = er R (hRow h) ∧ hL h ≠ [] := by
  induction k with
  | zero => intro h hh; cases hh
  | succ k ih =>
    intro h hh
    rw [hdsK] at hh
    split at hh
    · obtain ⟨h1, h2⟩ := ih h hh; exact ⟨by omega, h2⟩
    · rename_i hne
      rcases List.mem_append.1 hh with hh | hh
      · obtain ⟨h1, h2⟩ := ih h hh; exact ⟨by omega, h2⟩
      · rw [List.mem_singleton] at hh
        subst hh
        exact ⟨Nat.lt_succ_self k, rfl, hne⟩
theorem hdsK_all {R : List (List EntR)} {k r : Nat} (hr : r < k) (hne : er R r ≠ []) : ∃ h ∈ hdsK R k, hRow h = r := by
  induction k with
  | zero => omega
  | succ k ih =>
    rw [hdsK]
    by_cases hrk : r = k
    · subst hrk
      rw [if_neg hne]
      exact ⟨mkHd (er R r) r, by simp, rfl⟩
    · obtain ⟨h, h1, h2⟩ := ih (by omega)
      split
      · exact ⟨h, h1, h2⟩
      · exact ⟨h, by simp [h1], h2⟩
theorem hdsK_nodup (R : List (List EntR)) (k : Nat) : ((hdsK R k).map hRow).Nodup := by
  induction k with
  | zero => simp [hdsK]
  | succ k ih =>
    rw [hdsK]
    split
    · exact ih
    · rw [List.map_append, List.nodup_append]
      refine ⟨ih, by simp, fun a ha b hb => ?_⟩
      simp only [List.map_cons, List.map_nil, List.mem_singleton] at hb
      obtain ⟨h, hh, rfl⟩ := List.mem_map.1 ha
      have := (hdsK_row h hh).1
      rw [hb]
      show hRow h ≠ k
      omega
theorem hdsK_rep (R : List (List EntR)) : HdRep (hdsK R R.length) R := ⟨hdsK_row, fun r h1 h2 => hdsK_all h1 h2, hdsK_nodup R _⟩
theorem hdsK_len (R : List (List EntR)) (k : Nat) : (hdsK R k).length ≤ k := by
  induction k with
  | zero => simp [hdsK]
  | succ k ih =>
    rw [hdsK]
    split
    · omega
    · simp; exact ih
/-! ## In memory -/
def REnss (w : World) (A : Option Addr) (n : Nat) (R : List (List EntR)) : Prop :=
  R.length = n ∧ n ≤ 9223372036854775807 ∧ (0 < n → ∃ ad, A = some ad ∧ ∀ j, j < n → ∃ Aj nj cj, w.cell? (ad.add j) = some (.slice Aj nj cj) ∧ REnts w Aj nj (er R j) ∧ nj ≤ cj)
theorem REnss.at_ {w : World} {A : Option Addr} {n : Nat} {R : List (List EntR)} (h : REnss w A n R) {j : Nat} (hj : j < n) : ∃ ad, A = some ad ∧ ∃ Aj nj cj, w.cell? (ad.add j) = some (.slice Aj nj cj) ∧ REnts w Aj nj (er R j) ∧ nj ≤ cj := by
  obtain ⟨ad, e, hc⟩ := h.2.2 (by omega)
  exact ⟨ad, e, hc j hj⟩
theorem REnss.below {w w' : World} {A : Option Addr} {n : Nat} {R : List (List EntR)} (h : REnss w A n R) (hb : Below w.heap.size w w') : REnss w' A n R :=
  ⟨h.1, h.2.1, fun hn => by
    obtain ⟨ad, e, hc⟩ := h.2.2 hn
    refine ⟨ad, e, fun j hj => ?_⟩
    obtain ⟨Aj, nj, cj, h1, h2, h3⟩ := hc j hj
    exact ⟨Aj, nj, cj, below_cell hb h1, h2.below hb, h3⟩⟩
theorem REnts.drop1 {w : World} {A : Option Addr} {n : Nat} {es : List EntR} (h : REnts w A n es) (hn : 0 < n) {c : Nat} (hc : n ≤ c) : REnts w (if c = 1 then A else A.map (·.add (1 * 5))) (n - 1) es.tail := by
  have hl := h.1
  have hm := h.2.1
  refine ⟨by rw [List.length_tail, hl], by omega, fun h0 => ?_⟩
  obtain ⟨ad, rfl, hcell⟩ := h.2.2 hn
  rw [if_neg (by omega)]
  refine ⟨_, rfl, fun j hj => ?_⟩
  have hx := hcell (j + 1) (by omega)
  have e1 : (ad.add (1 * 5)).add (j * 5) = ad.add ((j + 1) * 5) := by rw [add_of_add]; congr 1; omega
  have e2 : elt noEnt es.tail j = elt noEnt es (j + 1) := by simp [elt, List.getD_eq_getElem?_getD]
  rw [e1, e2]
  exact hx
/-- A row is cut at its end. -/
theorem OV.shrink {w : World} {base size g n c k : Nat} {e : TypeId} {V : List (List Value)} (h : OV w base e size (.slice (some ⟨g, 0, none⟩) n c) V) (hn : V.length = n) (hk : k ≤ n) : OV w base e size (.slice (some ⟨g, 0, none⟩) k c) (V.take k) := by
  have hl : (V.take k).length = k := by rw [List.length_take]; omega
  refine ⟨?_, fun x hx => h.2 x (List.mem_of_mem_take hx)⟩
  rw [hl, flat_take V k h.2]
  obtain ⟨h1, h2⟩ := h.1
  have hle : k * size ≤ V.length * size := Nat.mul_le_mul_right _ (by omega)
  refine ⟨by rw [List.length_take, h1]; omega, ?_⟩
  rcases h2 with ⟨h3, _⟩ | ⟨g', cap, cur, h3, h4, h5, h6, h7, h8, h9⟩
  · cases h3
  · simp only [Value.slice.injEq, Option.some.injEq, Addr.mk.injEq, and_true, true_and] at h3
    obtain ⟨rfl, hlen, rfl⟩ := h3
    refine .inr ⟨g, c, cur, rfl, h4, h5, by omega, h7, h8, ?_⟩
    rw [← h9, List.take_take, Nat.min_eq_left hle]
theorem elemH : Try.prog.underlying 59 = some (.slice (Try.prog.elem 59)) := by kernel_rfl
theorem sizeH (w : World) : (sizeOf (Try.prog.elem 59)).run Try.prog w = .ok 2 w := by
  obtain ⟨i, hi, _, hs, _⟩ := info_parts hdinfo
  have he : Try.prog.elem 59 = 61 := by kernel_rfl
  rw [he]
  simp [sizeOf, typeInfo, hi, hs]
theorem cutH_hi {A : Option Addr} {n c : Nat} (hc : n ≤ c) {hi : Nat} (h1 : hi ≤ n) (H : Int) (hH : H = (hi : Int)) :
    ∀ w, (Instr.slice 59 (.slice A n c) none (some (.int .i64 H)) none).run Try.prog w = .ok (.slice A hi c) w := by
  subst hH
  intro w
  rw [run_slice_h (P := Try.prog) w 59 A n c elemH .i64 hi (by omega) (by omega), sizeH]
  cases A <;> simp [sliced, Result.andThen, Addr.add]
end Go.Proofs.Ytnjhiiakpndnnaa
