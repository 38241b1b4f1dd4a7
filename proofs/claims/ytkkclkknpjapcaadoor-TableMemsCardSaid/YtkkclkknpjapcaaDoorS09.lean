/- Shared texts, part S09: MmV, MmW. -/
import Derived.Test.YtkkclkknpjapcaaDoorS08
import Derived.Test.YtkkclkknpjapcaaDoorS05
/-! ### MmV -/
namespace Go.Proofs.YtkkclkknpjapcaaDoor
open Go.RowKit
set_option linter.unusedVariables false
set_option linter.unusedSimpArgs false

/-- A block of a mem: its head or a node. -/
def inM (bm : Nat) (l : List NodeR) (i : Nat) : Prop := i = bm ∨ ∃ x ∈ l, nBlk x = i
/-- What is no block of the mem is as it was. -/
structure KB (bm : Nat) (l : List NodeR) (w w' : World) : Prop where
  os : w'.os = w.os
  tape : w'.tape = w.tape
  output : w'.output = w.output
  size : w.heap.size ≤ w'.heap.size
  block : ∀ i o, w.heap[i]? = some o → ¬ inM bm l i → w'.heap[i]? = some o
theorem lt_of_blk {w : World} {i : Nat} {o : Obj} (h : w.heap[i]? = some o) : i < w.heap.size := by
  rcases Nat.lt_or_ge i w.heap.size with h1 | h1
  · exact h1
  · rw [Array.getElem?_eq_none h1] at h; cases h
theorem KB.of_below {bm : Nat} {l : List NodeR} {w w' : World} (h : Below w.heap.size w w') : KB bm l w w' := ⟨h.os, h.tape, h.output, h.size, fun i o ho _ => blk_below h ho⟩
theorem KB.refl (bm : Nat) (l : List NodeR) (w : World) : KB bm l w w := ⟨rfl, rfl, rfl, Nat.le_refl _, fun i o ho _ => ho⟩
theorem KB.below {bm : Nat} {l : List NodeR} {w w1 w2 : World} (h : KB bm l w w1) (hb : Below w1.heap.size w1 w2) : KB bm l w w2 :=
  ⟨hb.os.trans h.os, hb.tape.trans h.tape, hb.output.trans h.output, Nat.le_trans h.size hb.size, fun i o ho hi => blk_below hb (h.block i o ho hi)⟩
theorem KB.set {bm : Nat} {l : List NodeR} {w w1 : World} (h : KB bm l w w1) {b : Nat} (j : Nat) (v : Value) (hb : inM bm l b ∨ w.heap.size ≤ b) : KB bm l w (w1.setCell ⟨b, j, none⟩ v) := by
  refine ⟨h.os, h.tape, h.output, by simpa using h.size, fun i o ho hi => ?_⟩
  have hne : some b ≠ some i := by
    intro e
    injection e with e
    subst e
    rcases hb with hb | hb
    · exact hi hb
    · have := lt_of_blk ho; omega
  exact blk_grown' (grown_set w1 b j v) (h.block i o ho hi) hne
theorem KB.grown {bm : Nat} {l : List NodeR} {w w1 w2 : World} {row : Option Nat} (h : KB bm l w w1) (hg : w1.grownBy w2 row) (hb : ∀ k, row = some k → inM bm l k ∨ w.heap.size ≤ k) : KB bm l w w2 := by
  refine ⟨hg.os.trans h.os, hg.tape.trans h.tape, hg.output.trans h.output, Nat.le_trans h.size hg.size, fun i o ho hi => ?_⟩
  refine blk_grown' hg (h.block i o ho hi) (fun e => ?_)
  rcases hb i e with hb | hb
  · exact hi hb
  · have := lt_of_blk ho; omega
theorem SLn.blks {w : World} {base : Nat} : ∀ {l : List NodeR}, SLn w base l → ∀ x ∈ l, (∃ cs, w.heap[nBlk x]? = some (.cells cs 52 (0, 0))) ∧ base ≤ nBlk x := by
  intro l
  induction l with
  | nil => intro _ x hx; cases hx
  | cons y l ih =>
    intro h x hx
    rcases List.mem_cons.1 hx with rfl | hx
    · exact ⟨⟨_, h.1⟩, h.2.2.2.2.1⟩
    · exact ih h.2.2.2.2.2.2 x hx
theorem SL.inM {w : World} {base bm n : Nat} {l : List NodeR} {wt : Int} (h : SL w base bm l n wt) {i : Nat} (hi : inM bm l i) : ∃ cs T, w.heap[i]? = some (.cells cs T (0, 0)) ∧ (T = 52 ∨ T = 54) := by
  rcases hi with rfl | ⟨x, hx, rfl⟩
  · exact ⟨_, _, h.1, .inr rfl⟩
  · obtain ⟨⟨cs, hc⟩, _⟩ := h.2.blks x hx
    exact ⟨_, _, hc, .inl rfl⟩
theorem SL.notM {w : World} {base bm n : Nat} {l : List NodeR} {wt : Int} (h : SL w base bm l n wt) {i : Nat} {cs : Array Value} {T : TypeId} {fr : Nat × Nat} (hi : w.heap[i]? = some (.cells cs T fr)) (h1 : T ≠ 52) (h2 : T ≠ 54) : ¬ Go.Proofs.YtkkclkknpjapcaaDoor.inM bm l i := by
  intro hm
  obtain ⟨cs', T', hc, hT⟩ := h.inM hm
  rw [hc] at hi
  injection hi with hi
  injection hi with _ e _
  rcases hT with hT | hT
  · exact h1 (e.symm.trans hT)
  · exact h2 (e.symm.trans hT)
/-- Rows of one's own stay. -/
theorem KB.row {w w' : World} {base base' bm n size m : Nat} {l : List NodeR} {wt : Int} {e : TypeId} {v : Value} {xs : List Value} (hk : KB bm l w w') (h : SL w base bm l n wt) (hr : w.ownsRow base' e size v m xs) (h1 : e ≠ 52) (h2 : e ≠ 54) : w'.ownsRow base' e size v m xs := by
  refine ⟨hr.1, ?_⟩
  rcases hr.2 with hr | ⟨g, cap, cur, e1, e2, e3, e4⟩
  · exact .inl hr
  · exact .inr ⟨g, cap, cur, e1, e2, hk.block _ _ e3 (h.notM e3 h1 h2), e4⟩
theorem KB.ob {w w' : World} {base base' bm n : Nat} {l : List NodeR} {wt : Int} {v : Value} {xs : List UInt8} (hk : KB bm l w w') (h : SL w base bm l n wt) (hr : OB w base' v xs) : OB w' base' v xs := KB.row hk h hr (by decide) (by decide)
theorem KB.ov {w w' : World} {base base' bm n size : Nat} {l : List NodeR} {wt : Int} {e : TypeId} {v : Value} {V : List (List Value)} (hk : KB bm l w w') (h : SL w base bm l n wt) (hr : OV w base' e size v V) (h1 : e ≠ 52) (h2 : e ≠ 54) : OV w' base' e size v V := ⟨KB.row hk h hr.1 h1 h2, hr.2⟩
theorem eight {P : Nat → Prop} (h : ∀ i, i < 8 → P i) : P 0 ∧ P 1 ∧ P 2 ∧ P 3 ∧ P 4 ∧ P 5 ∧ P 6 ∧ P 7 := ⟨h 0 (by decide), h 1 (by decide), h 2 (by decide), h 3 (by decide), h 4 (by decide), h 5 (by decide), h 6 (by decide), h 7 (by decide)⟩
theorem nodeCells_eq {x : NodeR} {l l' : List NodeR} (h : ∀ i, i < 8 → nextAt x l i = nextAt x l' i) : nodeCells x l = nodeCells x l' := by
  obtain ⟨h0, h1, h2, h3, h4, h5, h6, h7⟩ := eight h
  unfold nodeCells
  rw [h0, h1, h2, h3, h4, h5, h6, h7]
theorem set13 {a b c d f a0 a1 a2 a3 a4 a5 a6 a7 b0 b1 b2 b3 b4 b5 b6 b7 : Value} {k : Nat} {p : Value} (hk : k < 8)
    (h0 : b0 = if k = 0 then p else a0) (h1 : b1 = if k = 1 then p else a1) (h2 : b2 = if k = 2 then p else a2) (h3 : b3 = if k = 3 then p else a3) (h4 : b4 = if k = 4 then p else a4) (h5 : b5 = if k = 5 then p else a5) (h6 : b6 = if k = 6 then p else a6) (h7 : b7 = if k = 7 then p else a7) :
    (#[a, b, c, d, f, a0, a1, a2, a3, a4, a5, a6, a7] : Array Value).setIfInBounds (5 + k) p = #[a, b, c, d, f, b0, b1, b2, b3, b4, b5, b6, b7] := by
  have hc : k = 0 ∨ k = 1 ∨ k = 2 ∨ k = 3 ∨ k = 4 ∨ k = 5 ∨ k = 6 ∨ k = 7 := by omega
  rcases hc with rfl | rfl | rfl | rfl | rfl | rfl | rfl | rfl <;> simp at h0 h1 h2 h3 h4 h5 h6 h7 <;> simp [h0, h1, h2, h3, h4, h5, h6, h7]
theorem set15 {a b c d f a0 a1 a2 a3 a4 a5 a6 a7 b0 b1 b2 b3 b4 b5 b6 b7 y z : Value} {k : Nat} {p : Value} (hk : k < 8)
    (h0 : b0 = if k = 0 then p else a0) (h1 : b1 = if k = 1 then p else a1) (h2 : b2 = if k = 2 then p else a2) (h3 : b3 = if k = 3 then p else a3) (h4 : b4 = if k = 4 then p else a4) (h5 : b5 = if k = 5 then p else a5) (h6 : b6 = if k = 6 then p else a6) (h7 : b7 = if k = 7 then p else a7) :
    (#[a, b, c, d, f, a0, a1, a2, a3, a4, a5, a6, a7, y, z] : Array Value).setIfInBounds (5 + k) p = #[a, b, c, d, f, b0, b1, b2, b3, b4, b5, b6, b7, y, z] := by
  have hc : k = 0 ∨ k = 1 ∨ k = 2 ∨ k = 3 ∨ k = 4 ∨ k = 5 ∨ k = 6 ∨ k = 7 := by omega
  rcases hc with rfl | rfl | rfl | rfl | rfl | rfl | rfl | rfl <;> simp at h0 h1 h2 h3 h4 h5 h6 h7 <;> simp [h0, h1, h2, h3, h4, h5, h6, h7]
theorem nodeCells_set {x y : NodeR} {l l' : List NodeR} {k : Nat} {p : Value} (hk : k < 8) (hkv : nKv x = nKv y) (hvv : nVv x = nVv y) (he : nEnt x = nEnt y) (h : ∀ i, i < 8 → nextAt y l' i = if k = i then p else nextAt x l i) : (nodeCells x l).setIfInBounds (5 + k) p = nodeCells y l' := by
  obtain ⟨h0, h1, h2, h3, h4, h5, h6, h7⟩ := eight h
  unfold nodeCells
  rw [hkv, hvv, he]
  exact set13 hk h0 h1 h2 h3 h4 h5 h6 h7
theorem headCells_set {l l' : List NodeR} {n : Nat} {wt : Int} {k : Nat} {p : Value} (hk : k < 8) (h : ∀ i, i < 8 → firstAt i l' = if k = i then p else firstAt i l) : (headCells l n wt).setIfInBounds (5 + k) p = headCells l' n wt := by
  obtain ⟨h0, h1, h2, h3, h4, h5, h6, h7⟩ := eight h
  unfold headCells
  exact set15 hk h0 h1 h2 h3 h4 h5 h6 h7
theorem headCells_eq {l l' : List NodeR} {n : Nat} {wt : Int} (h : ∀ i, i < 8 → firstAt i l = firstAt i l') : headCells l n wt = headCells l' n wt := by
  obtain ⟨h0, h1, h2, h3, h4, h5, h6, h7⟩ := eight h
  unfold headCells
  rw [h0, h1, h2, h3, h4, h5, h6, h7]
theorem firstAt_hit {i : Nat} {A : List NodeR} (h : ∃ x ∈ A, i < nHt x) (m m' : List NodeR) : firstAt i (A ++ m) = firstAt i (A ++ m') := by
  induction A with
  | nil => obtain ⟨x, hx, _⟩ := h; cases hx
  | cons z A ih =>
    rw [List.cons_append, List.cons_append, firstAt, firstAt]
    by_cases hz : i < nHt z
    · rw [if_pos hz, if_pos hz]
    · rw [if_neg hz, if_neg hz]
      refine ih ?_
      obtain ⟨x, hx, hi⟩ := h
      rcases List.mem_cons.1 hx with rfl | hx
      · exact absurd hi hz
      · exact ⟨x, hx, hi⟩
/-- The first nodes with the new one a level higher. -/
theorem first_up {A B : List NodeR} {g k : Nat} {e : EntR} {kv vv : Value} (hn : ∀ x ∈ A, nHt x ≤ k) (i : Nat) : firstAt i (A ++ mkNode g (k + 1) e kv vv :: B) = if k = i then ptrTo g else firstAt i (A ++ mkNode g k e kv vv :: B) := by
  by_cases hi : k = i
  · subst hi
    rw [if_pos rfl, firstAt_skip hn, firstAt, if_pos (show k < nHt (mkNode g (k + 1) e kv vv) from Nat.lt_succ_self k)]
    rfl
  · rw [if_neg hi]
    exact firstAt_mid A B _ _ rfl (by show k + 1 ≤ i ↔ k ≤ i; omega)
theorem first_up' {A B : List NodeR} {g k : Nat} {e : EntR} {kv vv : Value} (hn : ∃ x ∈ A, k < nHt x) (i : Nat) : firstAt i (A ++ mkNode g k e kv vv :: B) = firstAt i (A ++ mkNode g (k + 1) e kv vv :: B) := by
  by_cases hi : k = i
  · subst hi
    exact firstAt_hit hn _ _
  · exact firstAt_mid A B _ _ rfl (by show k ≤ i ↔ k + 1 ≤ i; omega)
theorem lastAt_mem (i b : Nat) (l : List NodeR) : (lastAt i b l = b ∧ ∀ x ∈ l, nHt x ≤ i) ∨ ∃ x ∈ l, lastAt i b l = nBlk x ∧ i < nHt x := by
  rcases lastAt_cases i l b with h | ⟨p, x, q, rfl, h2, h3, h4⟩
  · exact .inl h
  · exact .inr ⟨x, by simp, h4, h2⟩
/-- One level more: behind the two stores the nodes stand with the new one a level higher. -/
theorem SLn.insert {w W : World} {base g k : Nat} {e : EntR} {kv vv : Value} {B : List NodeR} (hk : k < 8)
    (hob : ∀ v xs, OB w base v xs → OB W base v xs)
    (hg : W.heap[g]? = some (.cells (nodeCells (mkNode g (k + 1) e kv vv) B) 52 (0, 0))) :
    ∀ (A : List NodeR) (b0 : Nat), (∀ x ∈ A ++ mkNode g k e kv vv :: B, nBlk x ≠ b0) → SLn w base (A ++ mkNode g k e kv vv :: B) →
    (∀ i o, w.heap[i]? = some o → i ≠ g → i ≠ lastAt k b0 A → W.heap[i]? = some o) →
    (∀ cs T, lastAt k b0 A ≠ b0 → w.heap[lastAt k b0 A]? = some (.cells cs T (0, 0)) → W.heap[lastAt k b0 A]? = some (.cells (cs.setIfInBounds (5 + k) (ptrTo g)) T (0, 0))) →
    SLn W base (A ++ mkNode g (k + 1) e kv vv :: B) := by
  intro A
  induction A with
  | nil =>
    intro b0 hb h hkeep hset
    obtain ⟨h1, h2, h3, h4, h5, h6, h7⟩ := h
    refine ⟨hg, hob _ _ h2, hob _ _ h3, by show k + 1 ≤ 8; omega, h5, h6, ?_⟩
    have hB : ∀ (C : List NodeR), (∀ y ∈ C, y ∈ B) → SLn w base C → SLn W base C := by
      intro C
      induction C with
      | nil => intro _ _; trivial
      | cons y C ih =>
        intro hm hc
        obtain ⟨c1, c2, c3, c4, c5, c6, c7⟩ := hc
        have hy := hm y (by simp)
        exact ⟨hkeep _ _ c1 (h6 y hy) (hb y (by simp [hy])), hob _ _ c2, hob _ _ c3, c4, c5, c6, ih (fun z hz => hm z (by simp [hz])) c7⟩
    exact hB B (fun y hy => hy) h7
  | cons x A ih =>
    intro b0 hb h hkeep hset
    rw [List.cons_append] at h hb ⊢
    obtain ⟨h1, h2, h3, h4, h5, h6, h7⟩ := h
    have hxg : nBlk x ≠ g := fun e' => h6 (mkNode g k e kv vv) (List.mem_append_right A (by simp)) e'.symm
    have hxb : nBlk x ≠ b0 := hb x (by simp)
    have hb' : ∀ y ∈ A ++ mkNode g k e kv vv :: B, nBlk y ≠ b0 := fun y hy => hb y (List.mem_cons_of_mem _ hy)
    have h6' : ∀ y ∈ A ++ mkNode g (k + 1) e kv vv :: B, nBlk y ≠ nBlk x := by
      intro y hy
      rcases List.mem_append.1 hy with hy | hy
      · exact h6 y (List.mem_append_left _ hy)
      · rcases List.mem_cons.1 hy with rfl | hy
        · exact fun e => hxg e.symm
        · exact h6 y (List.mem_append_right A (List.mem_cons_of_mem _ hy))
    by_cases hx : k < nHt x
    · have e0 : lastAt k b0 (x :: A) = lastAt k (nBlk x) A := by rw [lastAt, if_pos hx]
      rw [e0] at hkeep hset
      have hlb : lastAt k (nBlk x) A ≠ b0 := by
        rcases lastAt_mem k (nBlk x) A with ⟨e1, _⟩ | ⟨y, hy, e1, _⟩
        · rw [e1]; exact hxb
        · rw [e1]; exact hb' y (List.mem_append_left _ hy)
      refine ⟨?_, hob _ _ h2, hob _ _ h3, h4, h5, h6', ih (nBlk x) h6 h7 hkeep (fun cs T _ hc => hset cs T hlb hc)⟩
      rcases lastAt_mem k (nBlk x) A with ⟨e1, e2⟩ | ⟨y, hy, e1, e2⟩
      · have := hset _ _ hlb (by rw [e1]; exact h1)
        rw [e1] at this
        rw [this, nodeCells_set hk rfl rfl rfl (fun i hi => ?_)]
        unfold nextAt
        rw [first_up e2 i]
        by_cases hki : k = i
        · subst hki; rw [if_pos hx, if_pos rfl, if_pos rfl]
        · rw [if_neg hki, if_neg hki]
      · have hn : nBlk y ≠ nBlk x := h6 y (List.mem_append_left _ hy)
        have := hkeep _ _ h1 hxg (by rw [e1]; exact hn.symm)
        rw [this, nodeCells_eq (fun i hi => ?_)]
        unfold nextAt
        rw [first_up' ⟨y, hy, e2⟩ i]
    · have e0 : lastAt k b0 (x :: A) = lastAt k b0 A := by rw [lastAt, if_neg hx]
      rw [e0] at hkeep hset
      refine ⟨?_, hob _ _ h2, hob _ _ h3, h4, h5, h6', ih b0 hb' h7 hkeep hset⟩
      have hxl : nBlk x ≠ lastAt k b0 A := by
        rcases lastAt_mem k b0 A with ⟨e1, _⟩ | ⟨y, hy, e1, _⟩
        · rw [e1]; exact hxb
        · rw [e1]; exact (h6 y (List.mem_append_left _ hy)).symm
      have := hkeep _ _ h1 hxg hxl
      rw [this, nodeCells_eq (fun i hi => ?_)]
      unfold nextAt
      by_cases hki : k = i
      · subst hki; rw [if_neg hx, if_neg hx]
      · rw [firstAt_mid A B (mkNode g k e kv vv) (mkNode g (k + 1) e kv vv) rfl (show k ≤ i ↔ k + 1 ≤ i by omega)]
theorem SL.ne_bm {w : World} {base bm n : Nat} {l : List NodeR} {wt : Int} (h : SL w base bm l n wt) : ∀ x ∈ l, nBlk x ≠ bm := by
  intro x hx
  obtain ⟨⟨cs, hc⟩, _⟩ := h.2.blks x hx
  exact blk_ne hc h.1 (by decide)
/-- Where the new node's loop stands: the new node is in k levels. -/
def AddW (w wr : World) (base bm n : Nat) (wt : Int) (A B : List NodeR) (g k : Nat) (e : EntR) (kv vv : Value) : Prop :=
  SL wr base bm (A ++ mkNode g k e kv vv :: B) n wt ∧ KB bm (A ++ B) w wr ∧ Below base w wr ∧ w.heap.size ≤ g ∧ base ≤ bm ∧ (∀ i, inM bm (A ++ B) i → i < w.heap.size)
theorem last_in (k bm : Nat) (A B : List NodeR) : inM bm (A ++ B) (lastAt k bm A) := by
  rcases lastAt_mem k bm A with ⟨e1, _⟩ | ⟨y, hy, e1, _⟩
  · exact .inl e1
  · exact .inr ⟨y, List.mem_append_left _ hy, e1.symm⟩
theorem last_pos (k bm : Nat) (A m : List NodeR) : ∃ a, posOK (A ++ m) bm a (lastAt k bm A) k ∧ a ≤ A.length ∧ ∀ x ∈ A.drop a, nHt x ≤ k := by
  rcases lastAt_cases k A bm with ⟨h1, h2⟩ | ⟨p, x, q, rfl, h2, h3, h4⟩
  · exact ⟨0, .inl ⟨rfl, h1⟩, Nat.zero_le _, h2⟩
  · refine ⟨p.length + 1, .inr ⟨p, x, q ++ m, by simp, rfl, h4, h2⟩, by simp, fun y hy => h3 y ?_⟩
    have e : (p ++ x :: q).drop (p.length + 1) = q := by simp [List.drop_append]
    rwa [e] at hy
/-- The cell of level k at the last node ahead: the first of the level behind. -/
theorem SL.at_last {w : World} {base bm n : Nat} {A m : List NodeR} {wt : Int} (h : SL w base bm (A ++ m) n wt) {k : Nat} (hk : k < 8) : w.cell? ⟨lastAt k bm A, 5 + k, none⟩ = some (firstAt k m) := by
  obtain ⟨a, h1, h2, h3⟩ := last_pos k bm A m
  rw [h.next h1 hk, List.drop_append_of_le_length h2, firstAt_skip h3]
theorem nodeCells_get (x : NodeR) (l : List NodeR) (k : Nat) (hk : k < 8) : (nodeCells x l)[5 + k]? = some (nextAt x l k) := by
  have hc : k = 0 ∨ k = 1 ∨ k = 2 ∨ k = 3 ∨ k = 4 ∨ k = 5 ∨ k = 6 ∨ k = 7 := by omega
  rcases hc with rfl | rfl | rfl | rfl | rfl | rfl | rfl | rfl <;> rfl
theorem AddW.cells {w wr : World} {base bm n g k : Nat} {wt : Int} {A B : List NodeR} {e : EntR} {kv vv : Value} (h : AddW w wr base bm n wt A B g k e kv vv) (hk : k < 8) :
    wr.cell? ⟨lastAt k bm A, 5 + k, none⟩ = some (firstAt k B) ∧ wr.cell? ⟨g, 5 + k, none⟩ = some (nextAt (mkNode g k e kv vv) B k) ∧ (∀ i, wr.frozen? ⟨g, i, none⟩ = false) ∧ (∀ i, wr.frozen? ⟨lastAt k bm A, i, none⟩ = false) ∧ lastAt k bm A ≠ g ∧
    (∀ v : Value, (wr.setCell ⟨g, 5 + k, none⟩ v).cell? ⟨lastAt k bm A, 5 + k, none⟩ = some (firstAt k B)) ∧ (∀ (v : Value) i, (wr.setCell ⟨g, 5 + k, none⟩ v).frozen? ⟨lastAt k bm A, i, none⟩ = false) := by
  obtain ⟨h1, h2, h3, h4, h5, h6⟩ := h
  have hl := h6 _ (last_in k bm A B)
  have hne : lastAt k bm A ≠ g := by omega
  have hc : wr.cell? ⟨lastAt k bm A, 5 + k, none⟩ = some (firstAt k B) := by
    rw [h1.at_last hk, firstAt, if_neg (show ¬ k < nHt (mkNode g k e kv vv) from Nat.lt_irrefl k)]
  have hgb := h1.2.get.1
  obtain ⟨cs, T, hb, _⟩ := h1.inM (i := lastAt k bm A) (by
    rcases lastAt_mem k bm A with ⟨e1, _⟩ | ⟨y, hy, e1, _⟩
    · exact .inl e1
    · exact .inr ⟨y, List.mem_append_left _ hy, e1.symm⟩)
  have hb' : ∀ v : Value, (wr.setCell ⟨g, 5 + k, none⟩ v).heap[lastAt k bm A]? = some (.cells cs T (0, 0)) := fun v => blk_grown' (grown_set wr g (5 + k) v) hb (fun e => hne (Option.some.inj e).symm)
  refine ⟨hc, box_at hgb _ _ (nodeCells_get _ _ _ hk), fun i => frozen_of_row _ _ i _ _ hgb, fun i => frozen_of_row _ _ i _ _ hb, hne, fun v => ?_, fun v i => frozen_of_row _ _ i _ _ (hb' v)⟩
  rw [cell_of_row _ _ (5 + k) cs T (0, 0) hb] at hc
  exact box_at (hb' v) _ _ hc
theorem AddW.step {w wr : World} {base bm n g k : Nat} {wt : Int} {A B : List NodeR} {e : EntR} {kv vv : Value} (h : AddW w wr base bm n wt A B g k e kv vv) (hk : k < 8) (hwb : base ≤ w.heap.size) :
    AddW w ((wr.setCell ⟨g, 5 + k, none⟩ (firstAt k B)).setCell ⟨lastAt k bm A, 5 + k, none⟩ (ptrTo g)) base bm n wt A B g (k + 1) e kv vv := by
  obtain ⟨_, _, _, _, hne, _, _⟩ := h.cells hk
  obtain ⟨h1, h2, h3, h4, h5, h6⟩ := h
  have hgb := h1.2.get.1
  have hin := last_in k bm A B
  have hK := (h2.set (5 + k) (firstAt k B) (.inr h4)).set (5 + k) (ptrTo g) (.inl hin)
  have hbase : base ≤ lastAt k bm A := by
    rcases lastAt_mem k bm A with ⟨e1, _⟩ | ⟨y, hy, e1, _⟩
    · omega
    · rw [e1]; exact (h1.2.blks y (List.mem_append_left _ hy)).2
  refine ⟨?_, hK, (h3.setCell (by show base ≤ g; omega) _).setCell hbase _, h4, h5, h6⟩
  have hg1 := heap_setCell_same wr g (5 + k) _ _ (firstAt k B) hgb
  rw [nodeCells_set (x := mkNode g k e kv vv) (y := mkNode g (k + 1) e kv vv) (l := B) (l' := B) (p := firstAt k B) hk rfl rfl rfl (fun i hi => by
    unfold nextAt
    show (if i < k + 1 then firstAt i B else _) = if k = i then firstAt k B else (if i < k then firstAt i B else _)
    by_cases hki : k = i
    · subst hki; rw [if_pos (by omega), if_pos rfl]
    · rw [if_neg hki]
      by_cases hik : i < k
      · rw [if_pos hik, if_pos (by omega)]
      · rw [if_neg hik, if_neg (by omega)])] at hg1
  have hg2 := blk_grown' (grown_set (wr.setCell ⟨g, 5 + k, none⟩ (firstAt k B)) (lastAt k bm A) (5 + k) (ptrTo g)) hg1 (fun e => hne (Option.some.inj e))
  have hkeep : ∀ i o, wr.heap[i]? = some o → i ≠ g → i ≠ lastAt k bm A → ((wr.setCell ⟨g, 5 + k, none⟩ (firstAt k B)).setCell ⟨lastAt k bm A, 5 + k, none⟩ (ptrTo g)).heap[i]? = some o := fun i o ho hi1 hi2 =>
    blk_grown' (grown_set _ _ _ _) (blk_grown' (grown_set _ _ _ _) ho (fun e => hi1 (Option.some.inj e).symm)) (fun e => hi2 (Option.some.inj e).symm)
  have hset : ∀ cs T, wr.heap[lastAt k bm A]? = some (.cells cs T (0, 0)) → ((wr.setCell ⟨g, 5 + k, none⟩ (firstAt k B)).setCell ⟨lastAt k bm A, 5 + k, none⟩ (ptrTo g)).heap[lastAt k bm A]? = some (.cells (cs.setIfInBounds (5 + k) (ptrTo g)) T (0, 0)) := fun cs T ho =>
    heap_setCell_same _ _ (5 + k) _ _ (ptrTo g) (blk_grown' (grown_set _ _ _ _) ho (fun e => hne (Option.some.inj e).symm))
  refine ⟨?_, SLn.insert hk (fun v xs hv => ?_) hg2 A bm h1.ne_bm h1.2 hkeep (fun cs T _ hc => hset cs T hc)⟩
  · rcases lastAt_mem k bm A with ⟨e1, e2⟩ | ⟨y, hy, e1, e2⟩
    · have := hset _ _ (by rw [e1]; exact h1.1)
      rw [e1] at this
      rw [e1, this, headCells_set hk (fun i hi => first_up e2 i)]
    · have hyb := h1.ne_bm y (List.mem_append_left _ hy)
      have hgb' := h1.ne_bm (mkNode g k e kv vv) (by simp)
      rw [hkeep _ _ h1.1 (fun e' => hgb' e'.symm) (by rw [e1]; exact fun e' => hyb e'.symm), headCells_eq (fun i hi => first_up' ⟨y, hy, e2⟩ i)]
  · refine (KB.set (KB.set (KB.refl bm (A ++ mkNode g k e kv vv :: B) wr) (5 + k) (firstAt k B) (.inl (.inr ⟨mkNode g k e kv vv, by simp, rfl⟩))) (5 + k) (ptrTo g) (.inl ?_)).ob h1 hv
    rcases lastAt_mem k bm A with ⟨e1, _⟩ | ⟨y, hy, e1, _⟩
    · exact .inl e1
    · exact .inr ⟨y, List.mem_append_left _ hy, e1.symm⟩
end Go.Proofs.YtkkclkknpjapcaaDoor
/-! ### MmW -/
namespace Go.Proofs.YtkkclkknpjapcaaDoor
open Go.RowKit
set_option linter.unusedVariables false
set_option linter.unusedSimpArgs false

theorem first_zero {A B : List NodeR} {g : Nat} {e : EntR} {kv vv : Value} (i : Nat) : firstAt i (A ++ mkNode g 0 e kv vv :: B) = firstAt i (A ++ B) := by
  induction A with
  | nil => rw [List.nil_append, List.nil_append, firstAt, if_neg (show ¬ i < nHt (mkNode g 0 e kv vv) from Nat.not_lt_zero i)]
  | cons x A ih => rw [List.cons_append, List.cons_append, firstAt, firstAt, ih]
theorem SLn.zero {w W : World} {base g : Nat} {e : EntR} {kv vv : Value} {B : List NodeR} (hb : Below w.heap.size w W) (hg : W.heap[g]? = some (.cells (nodeCells (mkNode g 0 e kv vv) B) 52 (0, 0))) (hk : OB W base kv (eKey e)) (hv : OB W base vv (eVal e)) (hgb : base ≤ g) (hgw : w.heap.size ≤ g) :
    ∀ A : List NodeR, SLn w base (A ++ B) → SLn W base (A ++ mkNode g 0 e kv vv :: B) := by
  intro A
  induction A with
  | nil =>
    intro h
    refine ⟨hg, hk, hv, Nat.zero_le _, hgb, fun y hy => ?_, SLn.below hb h⟩
    obtain ⟨⟨cs, hc⟩, _⟩ := SLn.blks h y hy
    have := lt_of_blk hc
    show nBlk y ≠ g
    omega
  | cons x A ih =>
    intro h
    rw [List.cons_append] at h ⊢
    obtain ⟨h1, h2, h3, h4, h5, h6, h7⟩ := h
    have h1' := blk_below hb h1
    rw [nodeCells_eq (l' := A ++ mkNode g 0 e kv vv :: B) (fun i hi => by unfold nextAt; rw [first_zero])] at h1'
    refine ⟨h1', h2.below hb, h3.below hb, h4, h5, fun y hy => ?_, ih h7⟩
    rcases List.mem_append.1 hy with hy | hy
    · exact h6 y (List.mem_append_left _ hy)
    · rcases List.mem_cons.1 hy with rfl | hy
      · have := lt_of_blk h1
        show g ≠ nBlk x
        omega
      · exact h6 y (List.mem_append_right _ hy)
theorem AddW.start {w W : World} {base bm n : Nat} {wt : Int} {A B : List NodeR} {e : EntR} {kv vv : Value} (hS : SL w base bm (A ++ B) n wt) (hB : Below w.heap.size w W) (hk : OB W base kv (eKey e)) (hv : OB W base vv (eVal e)) (hbase : base ≤ w.heap.size) (hbm : base ≤ bm) :
    AddW w (W.alloc (.cells (nodeCells (mkNode W.heap.size 0 e kv vv) B) 52)) base bm n wt A B W.heap.size 0 e kv vv := by
  have hB1 := below_alloc' hB (.cells (nodeCells (mkNode W.heap.size 0 e kv vv) B) 52)
  have hB2 : Below W.heap.size W (W.alloc (.cells (nodeCells (mkNode W.heap.size 0 e kv vv) B) 52)) := below_alloc' (Below.refl _ _) _
  have hsz := hB.size
  refine ⟨⟨?_, SLn.zero hB1 (heap_alloc_new W _) (OB.below hk hB2) (OB.below hv hB2) (by omega) hsz A hS.2⟩, KB.of_below hB1, hB1.mono hbase, hsz, hbm, fun i hi => ?_⟩
  · have := blk_below hB1 hS.1
    rw [this, headCells_eq (fun i hi => first_zero i)]
  · obtain ⟨cs, T, hc, _⟩ := hS.inM hi
    exact lt_of_blk hc
/-- The count and the weight, stored. -/
theorem SL.count {w : World} {base bm n : Nat} {wt : Int} {l : List NodeR} (h : SL w base bm l n wt) (n' : Nat) (wt' : Int) : SL ((w.setCell ⟨bm, 13, none⟩ (.int .i64 (n' : Int))).setCell ⟨bm, 14, none⟩ (.int .i64 wt')) base bm l n' wt' := by
  have h1 : (w.setCell ⟨bm, 13, none⟩ (.int .i64 (n' : Int))).heap[bm]? = some (.cells (headCells l n' wt) 54 (0, 0)) := heap_setCell_same w bm 13 _ _ (.int .i64 (n' : Int)) h.1
  have h2 : ((w.setCell ⟨bm, 13, none⟩ (.int .i64 (n' : Int))).setCell ⟨bm, 14, none⟩ (.int .i64 wt')).heap[bm]? = some (.cells (headCells l n' wt') 54 (0, 0)) := heap_setCell_same _ bm 14 _ _ (.int .i64 wt') h1
  have hg : w.grownBy ((w.setCell ⟨bm, 13, none⟩ (.int .i64 (n' : Int))).setCell ⟨bm, 14, none⟩ (.int .i64 wt')) (some bm) := grown_trans (grown_set _ _ _ _) (grown_set _ _ _ _)
  refine ⟨h2, ?_⟩
  have hne := h.ne_bm
  obtain ⟨hh, hn⟩ := h
  have : ∀ m : List NodeR, (∀ x ∈ m, x ∈ l) → SLn w base m → SLn ((w.setCell ⟨bm, 13, none⟩ (.int .i64 (n' : Int))).setCell ⟨bm, 14, none⟩ (.int .i64 wt')) base m := by
    intro m
    induction m with
    | nil => intro _ _; trivial
    | cons x m ih =>
      intro hm hc
      obtain ⟨c1, c2, c3, c4, c5, c6, c7⟩ := hc
      have hx := hne x (hm x (by simp))
      refine ⟨blk_grown' hg c1 (fun e => hx (Option.some.inj e).symm), c2.other hg (.inr (c2.ne_blk hh (by decide))), c3.other hg (.inr (c3.ne_blk hh (by decide))), c4, c5, c6, ih (fun y hy => hm y (by simp [hy])) c7⟩
  exact this l (fun x hx => hx) hn
/-- The whole mem: its nodes in order, each in a level or more. -/
structure MemOK (w : World) (base bm : Nat) (l : List NodeR) (n : Nat) (wt : Int) : Prop where
  sl : SL w base bm l n wt
  tall : ∀ x ∈ l, 1 ≤ nHt x
  srt : Srt (l.map nEnt)
  base_ : base ≤ bm
theorem split_map {l : List NodeR} (key : List UInt8) (s : Int) (h : Srt (l.map nEnt)) : ∃ A B, l = A ++ B ∧ A.map nEnt = preK key s (l.map nEnt) ∧ B.map nEnt = sufK key s (l.map nEnt) ∧ (∀ x ∈ A, aheadK (nEnt x) key s = true) ∧ (∀ x ∈ B, aheadK (nEnt x) key s = false) := by
  have hp := pre_suf key s (l.map nEnt)
  obtain ⟨A, B, rfl, hA, hB⟩ := List.map_eq_append_iff.1 hp.symm
  refine ⟨A, B, rfl, hA, hB, fun x hx => ?_, fun x hx => ?_⟩
  · exact pre_all (nEnt x) (by rw [← hA]; exact List.mem_map_of_mem hx)
  · exact suf_none h (nEnt x) (by rw [← hB]; exact List.mem_map_of_mem hx)
end Go.Proofs.YtkkclkknpjapcaaDoor
