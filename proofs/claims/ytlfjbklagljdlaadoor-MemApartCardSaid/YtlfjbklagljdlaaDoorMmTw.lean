/- Layer 9: two mems side by side. -/
import Derived.Test.YtlfjbklagljdlaaDoorMmLb
namespace Go.Proofs.YtlfjbklagljdlaaDoor
open Go.RowKit
set_option linter.unusedVariables false
set_option linter.unusedSimpArgs false

theorem SLn.kb {w w' : World} {base bm n : Nat} {wt : Int} {l : List NodeR} (hk : KB bm l w w') (ha : SL w base bm l n wt) : ∀ {m : List NodeR}, SLn w base m → (∀ x ∈ m, ¬ inM bm l (nBlk x)) → SLn w' base m := by
  intro m
  induction m with
  | nil => intro _ _; trivial
  | cons x m ih =>
    intro h hd
    obtain ⟨h1, h2, h3, h4, h5, h6, h7⟩ := h
    exact ⟨hk.block _ _ h1 (hd x (by simp)), hk.ob ha h2, hk.ob ha h3, h4, h5, h6, ih h7 fun y hy => hd y (by simp [hy])⟩
/-- A mem stays where another one is added to. -/
theorem MemL.kb {w w' : World} {base bm bm' : Nat} {l m : List NodeR} (hk : KB bm l w w') (ha : MemL w base bm l) (hb : MemL w base bm' m) (hd : ∀ i, inM bm' m i → ¬ inM bm l i) : MemL w' base bm' m :=
  ⟨⟨hk.block _ _ hb.sl.1 (hd bm' (.inl rfl)), SLn.kb hk ha.sl hb.sl.2 fun x hx => hd _ (.inr ⟨x, hx, rfl⟩)⟩, hb.tall, hb.srt, hb.may, hb.base_⟩
theorem MemL.inM_lt {w : World} {base bm : Nat} {l : List NodeR} (h : MemL w base bm l) {i : Nat} (hi : inM bm l i) : i < w.heap.size := by
  obtain ⟨cs, T, hc, _⟩ := h.sl.inM hi
  exact lt_of_blk hc
/-- Where a loop stands that puts a row into two mems, from the front and from the back. -/
def TwoJ (w wr : World) (ba bb : Nat) (es : List EntR) (k : Nat) (la lb : List NodeR) : Prop :=
  MemL wr w.heap.size ba la ∧ MemL wr w.heap.size bb lb ∧ la.map nEnt = addAll [] (es.take k) ∧ lb.map nEnt = addAll [] (es.reverse.take k) ∧ la.length ≤ k ∧ lb.length ≤ k ∧ (∀ i, inM ba la i → ¬ inM bb lb i) ∧ Below w.heap.size w wr
theorem TwoJ.below {w wr w3 : World} {ba bb k : Nat} {es : List EntR} {la lb : List NodeR} (h : TwoJ w wr ba bb es k la lb) (hb : Below wr.heap.size wr w3) : TwoJ w w3 ba bb es k la lb := by
  obtain ⟨h1, h2, h3, h4, h5, h6, h7, h8⟩ := h
  exact ⟨h1.below hb, h2.below hb, h3, h4, h5, h6, h7, below_then h8 hb⟩
theorem add_len {l l' : List NodeR} {x : EntR} {k : Nat} (h : l'.map nEnt = addE (l.map nEnt) x) (hk : l.length ≤ k) : l'.length ≤ k + 1 := by
  have := addE_len (l.map nEnt) x
  rw [← h, List.length_map, List.length_map] at this
  omega
/-- Behind the first Add. -/
def MidJ (w wr : World) (ba bb : Nat) (es : List EntR) (k : Nat) (la lb : List NodeR) : Prop :=
  MemL wr w.heap.size ba la ∧ MemL wr w.heap.size bb lb ∧ la.map nEnt = addAll [] (es.take (k + 1)) ∧ lb.map nEnt = addAll [] (es.reverse.take k) ∧ la.length ≤ k + 1 ∧ lb.length ≤ k ∧ (∀ i, inM ba la i → ¬ inM bb lb i) ∧ Below w.heap.size w wr
theorem TwoJ.first {w wr w7 : World} {ba bb k : Nat} {es : List EntR} {la lb : List NodeR} (h : TwoJ w wr ba bb es k la lb) (hk : k < es.length) (hA : AddO wr w7 w.heap.size ba la (elt noEnt es k)) : ∃ la', MidJ w w7 ba bb es k la' lb := by
  obtain ⟨h1, h2, h3, h4, h5, h6, h7, h8⟩ := h
  obtain ⟨l', a1, a2, a3, a4, a5, _⟩ := hA
  refine ⟨l', a1, MemL.kb a3 h1 h2 (fun i hi hj => h7 i hj hi), ?_, h4, add_len a2 h5, h6, ?_, h8.trans a4⟩
  · rw [a2, h3, take_succ_elt noEnt hk, addAll_snoc]
  · intro i hi hj
    rcases a5 i hi with h | h
    · exact h7 i h hj
    · have := h2.inM_lt hj; omega
theorem MidJ.second {w wr w7 : World} {ba bb k : Nat} {es : List EntR} {la lb : List NodeR} (h : MidJ w wr ba bb es k la lb) (hk : k < es.length) (hA : AddO wr w7 w.heap.size bb lb (elt noEnt es (es.length - 1 - k))) : ∃ lb', TwoJ w w7 ba bb es (k + 1) la lb' := by
  obtain ⟨h1, h2, h3, h4, h5, h6, h7, h8⟩ := h
  obtain ⟨l', a1, a2, a3, a4, a5, _⟩ := hA
  have hr : elt noEnt es.reverse k = elt noEnt es (es.length - 1 - k) := by
    rw [elt_get noEnt (by simpa using hk), elt_get noEnt (by omega), List.getElem_reverse]
  refine ⟨l', MemL.kb a3 h2 h1 h7, a1, h3, ?_, h5, add_len a2 h6, ?_, h8.trans a4⟩
  · rw [a2, h4, take_succ_elt noEnt (by simpa using hk), addAll_snoc, hr]
  · intro i hi hj
    rcases a5 i hj with h | h
    · exact h7 i hi h
    · have := h1.inM_lt hi; omega
theorem TwoJ.done {w wr : World} {ba bb : Nat} {es : List EntR} {la lb : List NodeR} (h : TwoJ w wr ba bb es es.length la lb) (hp : es.Pairwise apartE) : lb.map nEnt = la.map nEnt := by
  obtain ⟨h1, h2, h3, h4, _⟩ := h
  rw [h3, h4, List.take_of_length_le (Nat.le_refl _), List.take_of_length_le (by simp), ← addAll_rev hp]
theorem pair_take {es : List EntR} {n : Nat} (hn : n ≤ es.length) (h : ∀ a b, a < b → b < n → apartE (elt noEnt es a) (elt noEnt es b)) : (es.take n).Pairwise apartE := by
  rw [List.pairwise_iff_getElem]
  intro i j hi hj hij
  rw [List.length_take] at hi hj
  have := h i j hij (by omega)
  rw [elt_get noEnt (by omega), elt_get noEnt (by omega)] at this
  simpa using this
end Go.Proofs.YtlfjbklagljdlaaDoor
