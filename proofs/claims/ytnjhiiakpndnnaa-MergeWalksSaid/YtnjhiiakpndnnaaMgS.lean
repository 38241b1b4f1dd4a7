/- Layer 16: the document's Merge: what it holds, in plain terms and in memory. -/
import Derived.Test.YtnjhiiakpndnnaaMgR
namespace Go.Proofs.Ytnjhiiakpndnnaa
open Go.RowKit
set_option linter.unusedVariables false
set_option linter.unusedSimpArgs false

/-- What is left of rows, by how much of each is taken. -/
structure DropA (ess : List (List EntR)) (a : List Nat) (R : List (List EntR)) : Prop where
  rl : R.length = ess.length
  al : a.length = ess.length
  is : ∀ r, r < ess.length → er R r = (er ess r).drop (elt 0 a r) ∧ elt 0 a r ≤ (er ess r).length
theorem DropA.start (ess : List (List EntR)) : DropA ess (List.replicate ess.length 0) ess :=
  ⟨rfl, by simp, fun r hr => by
    have e : elt 0 (List.replicate ess.length 0) r = 0 := by rw [elt_get 0 (by simpa using hr)]; simp
    rw [e]
    exact ⟨by simp, Nat.zero_le _⟩⟩
theorem DropA.empty {ess R : List (List EntR)} {a : List Nat} (h : DropA ess a R) {r : Nat} (hr : r < ess.length) : er R r = [] ↔ ¬ elt 0 a r < (er ess r).length := by
  rw [(h.is r hr).1, List.drop_eq_nil_iff]
  omega
theorem DropA.head {ess R : List (List EntR)} {a : List Nat} (h : DropA ess a R) {r : Nat} (hr : r < ess.length) : elt noEnt (er R r) 0 = elt noEnt (er ess r) (elt 0 a r) := by
  rw [(h.is r hr).1]
  simp [elt, List.getD_eq_getElem?_getD]
theorem DropA.step {ess R : List (List EntR)} {a : List Nat} (h : DropA ess a R) {b : Nat} (hb : b < ess.length) (hn : elt 0 a b < (er ess b).length) : DropA ess (a.set b (elt 0 a b + 1)) (R.set b (er R b).tail) := by
  refine ⟨by rw [List.length_set]; exact h.rl, by rw [List.length_set]; exact h.al, fun r hr => ?_⟩
  rw [er_set (by rw [h.rl]; exact hb), elt_set 0 a b r _ (by rw [h.al]; exact hb)]
  by_cases e : r = b
  · rw [if_pos e, if_pos e, (h.is b hb).1, e]
    exact ⟨by rw [List.tail_drop], by omega⟩
  · rw [if_neg e, if_neg e]
    exact h.is r hr
/-- The best of the first rows. -/
def BestK (R : List (List EntR)) (k : Nat) (i : Int) : Prop :=
  (i = -1 ∧ ∀ r, r < k → er R r = []) ∨ ∃ b : Nat, i = (b : Int) ∧ b < k ∧ er R b ≠ [] ∧ ∀ r, r < k → er R r ≠ [] → r ≠ b → LessH (mkHd (er R b) b) (mkHd (er R r) r)
theorem BestK.start (R : List (List EntR)) : BestK R 0 (-1) := .inl ⟨rfl, fun r hr => absurd hr (by omega)⟩
theorem BestK.skip {R : List (List EntR)} {k : Nat} {i : Int} (h : BestK R k i) (hk : er R k = []) : BestK R (k + 1) i := by
  rcases h with ⟨h1, h2⟩ | ⟨b, h1, h2, h3, h4⟩
  · refine .inl ⟨h1, fun r hr => ?_⟩
    rcases Nat.lt_succ_iff_lt_or_eq.1 hr with h | h
    · exact h2 r h
    · rw [h]; exact hk
  · refine .inr ⟨b, h1, by omega, h3, fun r hr hn => ?_⟩
    rcases Nat.lt_succ_iff_lt_or_eq.1 hr with h | h
    · exact h4 r h hn
    · rw [h] at hn; exact absurd hk hn
theorem BestK.first {R : List (List EntR)} {k : Nat} (h : ∀ r, r < k → er R r = []) (hk : er R k ≠ []) : BestK R (k + 1) (k : Int) := by
  refine .inr ⟨k, rfl, by omega, hk, fun r hr hn hne => ?_⟩
  exact absurd (h r (by omega)) hn
theorem BestK.keep {R : List (List EntR)} {k b : Nat} (h : b < k ∧ er R b ≠ [] ∧ ∀ r, r < k → er R r ≠ [] → r ≠ b → LessH (mkHd (er R b) b) (mkHd (er R r) r)) (hn : aheadE (elt noEnt (er R k) 0) (elt noEnt (er R b) 0) = false) : BestK R (k + 1) (b : Int) := by
  obtain ⟨h2, h3, h4⟩ := h
  refine .inr ⟨b, rfl, by omega, h3, fun r hr hn' hne => ?_⟩
  rcases Nat.lt_succ_iff_lt_or_eq.1 hr with h | h
  · exact h4 r h hn' hne
  · subst h
    rcases ahead_tri (elt noEnt (er R b) 0) (elt noEnt (er R r) 0) with h | h | h
    · exact .inl h
    · rw [hn] at h; cases h
    · exact .inr ⟨h, h2⟩
theorem BestK.new {R : List (List EntR)} {k b : Nat} (h : b < k ∧ er R b ≠ [] ∧ ∀ r, r < k → er R r ≠ [] → r ≠ b → LessH (mkHd (er R b) b) (mkHd (er R r) r)) (hk : er R k ≠ []) (hn : aheadE (elt noEnt (er R k) 0) (elt noEnt (er R b) 0) = true) : BestK R (k + 1) (k : Int) := by
  obtain ⟨h2, h3, h4⟩ := h
  have hl : LessH (mkHd (er R k) k) (mkHd (er R b) b) := .inl hn
  refine .inr ⟨k, rfl, by omega, hk, fun r hr hn' hne => ?_⟩
  by_cases e : r = b
  · rw [e]; exact hl
  · rcases hl.split (mkHd (er R r) r) with h | h
    · exact h
    · exact absurd h (h4 r (by omega) hn' e).asym
theorem BestK.end_ {R : List (List EntR)} (h : ∀ r, r < R.length → er R r = []) : MRel R [] := h
theorem BestK.more {R : List (List EntR)} {b : Nat} (h : b < R.length ∧ er R b ≠ [] ∧ ∀ r, r < R.length → er R r ≠ [] → r ≠ b → LessH (mkHd (er R b) b) (mkHd (er R r) r)) {rest : List EntR} (hr : MRel (R.set b (er R b).tail) rest) : MRel R (elt noEnt (er R b) 0 :: rest) :=
  ⟨b, h.1, h.2.1, rfl, h.2.2, hr⟩
/-! ## In memory -/
def intsA (a : List Nat) : Array Value := (a.map fun k : Nat => (Value.int .i64 (k : Int))).toArray
theorem ints_at {w : World} {ba : Nat} {a : List Nat} {r : Nat} (h : w.heap[ba]? = some (.cells (intsA a) 3 (0, 0))) (hr : r < a.length) : w.cell? ⟨ba, r, none⟩ = some (.int .i64 (elt 0 a r : Nat)) := by
  refine box_at h r _ ?_
  rw [elt_get 0 hr]
  simp [intsA, hr]
theorem ints_set {w : World} {ba : Nat} {a : List Nat} {r x : Nat} (h : w.heap[ba]? = some (.cells (intsA a) 3 (0, 0))) (hr : r < a.length) : (w.setCell ⟨ba, r, none⟩ (.int .i64 (x : Int))).heap[ba]? = some (.cells (intsA (a.set r x)) 3 (0, 0)) := by
  have := heap_setCell_same w ba r _ _ (.int .i64 (x : Int)) h
  rw [this]
  congr 2
  simp [intsA, List.map_set]
/-- Where the document's Merge stands. -/
structure RefJ (w wr : World) (ess : List (List EntR)) (ba : Nat) (a : List Nat) (R : List (List EntR)) (out : List EntR) (v : Value) : Prop where
  row : ROwR w wr w.heap.size v out
  drop : DropA ess a R
  rel : ∀ rest, MRel R rest → MRel ess (out ++ rest)
  tot : out.length + totR R = totR ess
  at_ : wr.heap[ba]? = some (.cells (intsA a) 3 (0, 0))
  bel : Below w.heap.size w wr
  base_ : w.heap.size ≤ ba
def lenV : Value → Nat
  | .slice _ n _ => n
  | _ => 0
theorem RefJ.below {w wr w' : World} {ess R : List (List EntR)} {ba : Nat} {a : List Nat} {out : List EntR} {v : Value} (h : RefJ w wr ess ba a R out v) (hb : Below wr.heap.size wr w') : RefJ w w' ess ba a R out v :=
  ⟨h.row.below hb, h.drop, h.rel, h.tot, blk_below hb h.at_, below_then h.bel hb, h.base_⟩
/-- One entry more. -/
theorem RefJ.step {w wr w' : World} {ess R : List (List EntR)} {ba b : Nat} {a : List Nat} {out : List EntR} {v v' : Value} (h : RefJ w wr ess ba a R out v) (hb : b < R.length ∧ er R b ≠ [] ∧ ∀ r, r < R.length → er R r ≠ [] → r ≠ b → LessH (mkHd (er R b) b) (mkHd (er R r) r)) (hrow : ROwR w w' w.heap.size v' (out ++ [elt noEnt (er R b) 0])) (hat : w'.heap[ba]? = some (.cells (intsA (a.set b (elt 0 a b + 1))) 3 (0, 0))) (hbel : Below w.heap.size w w') :
    RefJ w w' ess ba (a.set b (elt 0 a b + 1)) (R.set b (er R b).tail) (out ++ [elt noEnt (er R b) 0]) v' := by
  have hb1 : b < ess.length := by rw [← h.drop.rl]; exact hb.1
  have hne : elt 0 a b < (er ess b).length := by
    rcases Nat.lt_or_ge (elt 0 a b) (er ess b).length with h1 | h1
    · exact h1
    · exact absurd ((h.drop.empty hb1).2 (by omega)) hb.2.1
  have hlen : (er R b).length = (er R b).tail.length + 1 := by
    cases hq : er R b with
    | nil => exact absurd hq hb.2.1
    | cons x l => simp
  have hts := totR_set hb.1 (er R b).tail
  have htot := h.tot
  refine ⟨hrow, h.drop.step hb1 hne, fun rest hr => ?_, by simp; omega, hat, hbel, h.base_⟩
  have := h.rel (elt noEnt (er R b) 0 :: rest) (BestK.more hb hr)
  simpa using this
end Go.Proofs.Ytnjhiiakpndnnaa
