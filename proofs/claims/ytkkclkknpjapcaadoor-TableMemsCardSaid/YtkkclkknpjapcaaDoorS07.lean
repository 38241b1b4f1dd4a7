/- Shared texts, part S07: MmS, MmT, MmK, MmL. -/
import Derived.Deep.LoopGhost
import Derived.Test.YtkkclkknpjapcaaDoorS06
/-! ### MmS -/
namespace Go.Proofs.YtkkclkknpjapcaaDoor
open Go.RowKit
set_option linter.unusedVariables false
set_option linter.unusedSimpArgs false

/-- A node: its block, in how many levels it is, its entry, its key and its value as the memory has them. -/
def NodeR : Type := Nat × Nat × EntR × Value × Value
def nBlk (x : NodeR) : Nat := x.1
def nHt (x : NodeR) : Nat := x.2.1
def nEnt (x : NodeR) : EntR := x.2.2.1
def nKv (x : NodeR) : Value := x.2.2.2.1
def nVv (x : NodeR) : Value := x.2.2.2.2
def mkNode (b h : Nat) (e : EntR) (kv vv : Value) : NodeR := (b, h, e, kv, vv)
def ptrTo (b : Nat) : Value := .pointer (some ⟨b, 0, none⟩)
/-- The first node that is in level i. -/
def firstAt (i : Nat) : List NodeR → Value
  | [] => .pointer none
  | x :: l => if i < nHt x then ptrTo (nBlk x) else firstAt i l
/-- The last node that is in level i, the head where there is none. -/
def lastAt (i : Nat) (b : Nat) : List NodeR → Nat
  | [] => b
  | x :: l => if i < nHt x then lastAt i (nBlk x) l else lastAt i b l
theorem firstAt_skip {i : Nat} {l : List NodeR} (h : ∀ x ∈ l, nHt x ≤ i) (m : List NodeR) : firstAt i (l ++ m) = firstAt i m := by
  induction l with
  | nil => rfl
  | cons x l ih =>
    have hx := h x (by simp)
    rw [List.cons_append, firstAt, if_neg (by omega)]
    exact ih fun y hy => h y (by simp [hy])
theorem firstAt_cases (i : Nat) : ∀ l : List NodeR, (firstAt i l = .pointer none ∧ ∀ x ∈ l, nHt x ≤ i) ∨ ∃ p x q, l = p ++ x :: q ∧ (∀ y ∈ p, nHt y ≤ i) ∧ i < nHt x ∧ firstAt i l = ptrTo (nBlk x) := by
  intro l
  induction l with
  | nil => exact .inl ⟨rfl, fun x h => by cases h⟩
  | cons x l ih =>
    by_cases hx : i < nHt x
    · exact .inr ⟨[], x, l, rfl, (fun y h => by cases h), hx, by rw [firstAt, if_pos hx]⟩
    · rcases ih with ⟨h1, h2⟩ | ⟨p, y, q, h1, h2, h3, h4⟩
      · refine .inl ⟨by rw [firstAt, if_neg hx]; exact h1, fun y hy => ?_⟩
        rcases List.mem_cons.1 hy with rfl | hy
        · omega
        · exact h2 y hy
      · refine .inr ⟨x :: p, y, q, by rw [h1]; rfl, fun z hz => ?_, h3, by rw [firstAt, if_neg hx]; exact h4⟩
        rcases List.mem_cons.1 hz with rfl | hz
        · omega
        · exact h2 z hz
theorem lastAt_skip {i : Nat} {m : List NodeR} (h : ∀ x ∈ m, nHt x ≤ i) : ∀ (l : List NodeR) (b : Nat), lastAt i b (l ++ m) = lastAt i b l := by
  have hm : ∀ b, lastAt i b m = b := by
    induction m with
    | nil => intro b; rfl
    | cons x m ih =>
      intro b
      rw [lastAt, if_neg (by have := h x (by simp); omega)]
      exact ih (fun y hy => h y (by simp [hy])) b
  intro l
  induction l with
  | nil => intro b; exact hm b
  | cons x l ih =>
    intro b
    rw [List.cons_append, lastAt, lastAt]
    split
    · exact ih _
    · exact ih _
theorem lastAt_snoc {i : Nat} {x : NodeR} (hx : i < nHt x) : ∀ (l : List NodeR) (b : Nat), lastAt i b (l ++ [x]) = nBlk x := by
  intro l
  induction l with
  | nil => intro b; rw [List.nil_append, lastAt, if_pos hx]; rfl
  | cons y l ih =>
    intro b
    rw [List.cons_append, lastAt]
    split
    · exact ih _
    · exact ih _
/-- The last node of level i stands in the list, or it is the head; behind it none is in level i. -/
theorem lastAt_cases (i : Nat) : ∀ (l : List NodeR) (b : Nat), (lastAt i b l = b ∧ ∀ x ∈ l, nHt x ≤ i) ∨ ∃ p x q, l = p ++ x :: q ∧ i < nHt x ∧ (∀ y ∈ q, nHt y ≤ i) ∧ lastAt i b l = nBlk x := by
  intro l
  induction l with
  | nil => intro b; exact .inl ⟨rfl, fun x h => by cases h⟩
  | cons x l ih =>
    intro b
    by_cases hx : i < nHt x
    · rw [lastAt, if_pos hx]
      rcases ih (nBlk x) with ⟨h1, h2⟩ | ⟨p, y, q, h1, h2, h3, h4⟩
      · exact .inr ⟨[], x, l, rfl, hx, h2, h1⟩
      · exact .inr ⟨x :: p, y, q, by rw [h1]; rfl, h2, h3, h4⟩
    · rw [lastAt, if_neg hx]
      rcases ih b with ⟨h1, h2⟩ | ⟨p, y, q, h1, h2, h3, h4⟩
      · refine .inl ⟨h1, fun y hy => ?_⟩
        rcases List.mem_cons.1 hy with rfl | hy
        · omega
        · exact h2 y hy
      · exact .inr ⟨x :: p, y, q, by rw [h1]; rfl, h2, h3, h4⟩
/-- What stands in a node's level i: the next node of the level, nothing where the node is not in it. -/
def nextAt (x : NodeR) (l : List NodeR) (i : Nat) : Value := if i < nHt x then firstAt i l else .pointer none
def nodeCells (x : NodeR) (l : List NodeR) : Array Value :=
  #[nKv x, .int .i64 (eSeq (nEnt x)), .bool (eGone (nEnt x)), .int .i64 (eTil (nEnt x)), nVv x, nextAt x l 0, nextAt x l 1, nextAt x l 2, nextAt x l 3, nextAt x l 4, nextAt x l 5, nextAt x l 6, nextAt x l 7]
def headCells (l : List NodeR) (n : Nat) (wt : Int) : Array Value :=
  #[.slice none 0 0, .int .i64 0, .bool false, .int .i64 0, .slice none 0 0, firstAt 0 l, firstAt 1 l, firstAt 2 l, firstAt 3 l, firstAt 4 l, firstAt 5 l, firstAt 6 l, firstAt 7 l, .int .i64 (n : Int), .int .i64 wt]
/-- The nodes as the memory has them. -/
def SLn (w : World) (base : Nat) : List NodeR → Prop
  | [] => True
  | x :: l => w.heap[nBlk x]? = some (.cells (nodeCells x l) 52 (0, 0)) ∧ OB w base (nKv x) (eKey (nEnt x)) ∧ OB w base (nVv x) (eVal (nEnt x)) ∧ nHt x ≤ 8 ∧ base ≤ nBlk x ∧ (∀ y ∈ l, nBlk y ≠ nBlk x) ∧ SLn w base l
/-- A mem as the memory has it. -/
def SL (w : World) (base bm : Nat) (l : List NodeR) (n : Nat) (wt : Int) : Prop :=
  w.heap[bm]? = some (.cells (headCells l n wt) 54 (0, 0)) ∧ SLn w base l
theorem firstAt_mid {i : Nat} (A B : List NodeR) (x y : NodeR) (hb : nBlk x = nBlk y) (hh : nHt x ≤ i ↔ nHt y ≤ i) : firstAt i (A ++ x :: B) = firstAt i (A ++ y :: B) := by
  induction A with
  | nil =>
    rw [List.nil_append, List.nil_append, firstAt, firstAt, hb]
    by_cases h : nHt x ≤ i
    · rw [if_neg (by omega), if_neg (by have := hh.1 h; omega)]
    · rw [if_pos (by omega), if_pos (by have := mt hh.2 h; omega)]
  | cons z A ih =>
    rw [List.cons_append, List.cons_append, firstAt, firstAt, ih]
end Go.Proofs.YtkkclkknpjapcaaDoor
/-! ### MmT -/
namespace Go.Proofs.YtkkclkknpjapcaaDoor
open Go.RowKit
set_option linter.unusedVariables false
set_option linter.unusedSimpArgs false

theorem SLn.below {w w' : World} {base : Nat} (hb : Below w.heap.size w w') : ∀ {l : List NodeR}, SLn w base l → SLn w' base l := by
  intro l
  induction l with
  | nil => intro h; trivial
  | cons x l ih =>
    intro h
    obtain ⟨h1, h2, h3, h4, h5, h6, h7⟩ := h
    exact ⟨blk_below hb h1, h2.below hb, h3.below hb, h4, h5, h6, ih h7⟩
theorem SL.below {w w' : World} {base bm : Nat} {l : List NodeR} {n : Nat} {wt : Int} (h : SL w base bm l n wt) (hb : Below w.heap.size w w') : SL w' base bm l n wt := ⟨blk_below hb h.1, h.2.below hb⟩
/-- A node of the list: its block's cells, its bytes. -/
theorem SLn.get {w : World} {base : Nat} : ∀ {p : List NodeR} {x : NodeR} {q : List NodeR}, SLn w base (p ++ x :: q) →
    w.heap[nBlk x]? = some (.cells (nodeCells x q) 52 (0, 0)) ∧ OB w base (nKv x) (eKey (nEnt x)) ∧ OB w base (nVv x) (eVal (nEnt x)) ∧ nHt x ≤ 8 ∧ base ≤ nBlk x ∧ SLn w base q := by
  intro p
  induction p with
  | nil =>
    intro x q h
    obtain ⟨h1, h2, h3, h4, h5, h6, h7⟩ := h
    exact ⟨h1, h2, h3, h4, h5, h7⟩
  | cons y p ih =>
    intro x q h
    exact ih h.2.2.2.2.2.2
/-- Position a of the list as level i meets it: the head, or a node that is in level i. -/
def posOK (l : List NodeR) (bm a b i : Nat) : Prop := (a = 0 ∧ b = bm) ∨ ∃ p x q, l = p ++ x :: q ∧ a = p.length + 1 ∧ b = nBlk x ∧ i < nHt x
theorem posOK.le {l : List NodeR} {bm a b i : Nat} (h : posOK l bm a b i) : a ≤ l.length := by
  rcases h with ⟨rfl, _⟩ | ⟨p, x, q, rfl, rfl, _⟩
  · exact Nat.zero_le _
  · simp
/-- The cell of level i at a position: the first node of the level behind it. -/
theorem SL.next {w : World} {base bm : Nat} {l : List NodeR} {n : Nat} {wt : Int} (h : SL w base bm l n wt) {a b i : Nat} (hp : posOK l bm a b i) (hi : i < 8) : w.cell? ⟨b, 5 + i, none⟩ = some (firstAt i (l.drop a)) := by
  rcases hp with ⟨rfl, rfl⟩ | ⟨p, x, q, rfl, rfl, rfl, hx⟩
  · rw [List.drop_zero]
    refine box_at h.1 (5 + i) _ ?_
    have hc : i = 0 ∨ i = 1 ∨ i = 2 ∨ i = 3 ∨ i = 4 ∨ i = 5 ∨ i = 6 ∨ i = 7 := by omega
    rcases hc with rfl | rfl | rfl | rfl | rfl | rfl | rfl | rfl <;> rfl
  · have hd : (p ++ x :: q).drop (p.length + 1) = q := by simp [List.drop_append]
    rw [hd]
    have hn : nextAt x q i = firstAt i q := by unfold nextAt; rw [if_pos hx]
    rw [← hn]
    refine box_at h.2.get.1 (5 + i) _ ?_
    have hc : i = 0 ∨ i = 1 ∨ i = 2 ∨ i = 3 ∨ i = 4 ∨ i = 5 ∨ i = 6 ∨ i = 7 := by omega
    rcases hc with rfl | rfl | rfl | rfl | rfl | rfl | rfl | rfl <;> rfl
/-- The pointer that stands there: nothing, and no node behind is in the level; or a node, its place, its cells. -/
theorem firstAt_pos {l : List NodeR} {a i : Nat} (ha : a ≤ l.length) : (firstAt i (l.drop a) = .pointer none ∧ ∀ x ∈ l.drop a, nHt x ≤ i) ∨
    ∃ p x q, l = p ++ x :: q ∧ a ≤ p.length ∧ i < nHt x ∧ firstAt i (l.drop a) = ptrTo (nBlk x) ∧ (∀ y ∈ p.drop a, nHt y ≤ i) := by
  rcases firstAt_cases i (l.drop a) with h | ⟨p, x, q, h1, h2, h3, h4⟩
  · exact .inl h
  · refine .inr ⟨l.take a ++ p, x, q, ?_, ?_, h3, h4, ?_⟩
    · rw [List.append_assoc, ← h1, List.take_append_drop]
    · rw [List.length_append, List.length_take]; omega
    · have e : (l.take a ++ p).drop a = p := by
        rw [List.drop_append, List.length_take, Nat.min_eq_left ha, Nat.sub_self, List.drop_zero, List.drop_eq_nil_of_le (by rw [List.length_take]; omega), List.nil_append]
      rw [e]
      exact h2
end Go.Proofs.YtkkclkknpjapcaaDoor
/-! ### MmK -/
namespace Go.Proofs.YtkkclkknpjapcaaDoor
open Go.RowKit
set_option linter.unusedVariables false
set_option linter.unusedSimpArgs false

/-- The path's pointers from level t on; nothing below. -/
def pc (l : List NodeR) (bm t i : Nat) : Value := if t ≤ i then ptrTo (lastAt i bm l) else .pointer none
def pathC (l : List NodeR) (bm t : Nat) : Array Value := #[pc l bm t 0, pc l bm t 1, pc l bm t 2, pc l bm t 3, pc l bm t 4, pc l bm t 5, pc l bm t 6, pc l bm t 7]
theorem pathC_8 (l : List NodeR) (bm : Nat) : pathC l bm 8 = #[.pointer none, .pointer none, .pointer none, .pointer none, .pointer none, .pointer none, .pointer none, .pointer none] := rfl
theorem pathC_set (l : List NodeR) (bm t : Nat) (ht : t < 8) : (pathC l bm (t + 1)).setIfInBounds t (ptrTo (lastAt t bm l)) = pathC l bm t := by
  have hc : t = 0 ∨ t = 1 ∨ t = 2 ∨ t = 3 ∨ t = 4 ∨ t = 5 ∨ t = 6 ∨ t = 7 := by omega
  rcases hc with rfl | rfl | rfl | rfl | rfl | rfl | rfl | rfl <;> simp [pathC, pc]
theorem pathC_get (l : List NodeR) (bm t i : Nat) (hi : i < 8) : (pathC l bm t)[i]? = some (pc l bm t i) := by
  have hc : i = 0 ∨ i = 1 ∨ i = 2 ∨ i = 3 ∨ i = 4 ∨ i = 5 ∨ i = 6 ∨ i = 7 := by omega
  rcases hc with rfl | rfl | rfl | rfl | rfl | rfl | rfl | rfl <;> rfl
theorem posOK.mono {l : List NodeR} {bm a b i j : Nat} (h : posOK l bm a b i) (hj : j ≤ i) : posOK l bm a b j := by
  rcases h with h | ⟨p, x, q, h1, h2, h3, h4⟩
  · exact .inl h
  · exact .inr ⟨p, x, q, h1, h2, h3, by omega⟩
/-- A position behind which, up to P, no node is in level i: it is the last of the level. -/
theorem posOK.last {l : List NodeR} {bm a b i P : Nat} (h : posOK l bm a b i) (ha : a ≤ P) (hn : ∀ x ∈ (l.take P).drop a, nHt x ≤ i) : b = lastAt i bm (l.take P) := by
  rcases h with ⟨rfl, rfl⟩ | ⟨p, x, q, rfl, rfl, rfl, hx⟩
  · rw [List.drop_zero] at hn
    have := lastAt_skip hn [] b
    rw [List.nil_append] at this
    rw [this]
    rfl
  · obtain ⟨d, rfl⟩ : ∃ d, P = p.length + 1 + d := ⟨P - (p.length + 1), by omega⟩
    have e : (p ++ x :: q).take (p.length + 1 + d) = (p ++ [x]) ++ q.take d := by
      rw [show p ++ x :: q = (p ++ [x]) ++ q by simp, show p.length + 1 + d = (p ++ [x]).length + d by simp, List.take_length_add_append]
    rw [e] at hn ⊢
    have e2 : ((p ++ [x]) ++ q.take d).drop (p.length + 1) = q.take d := by
      rw [show p.length + 1 = (p ++ [x]).length by simp, List.drop_left]
    rw [e2] at hn
    rw [lastAt_skip hn, lastAt_snoc hx]
/-- What stands at a position: where to go from there. -/
theorem seek_at {l : List NodeR} {bm a b i P : Nat} {key : List UInt8} {s : Int} (h : posOK l bm a b i) (ha : a ≤ P) (hP : P ≤ l.length) (hA : ∀ x ∈ l.take P, aheadK (nEnt x) key s = true) (hN : ∀ x ∈ l.drop P, aheadK (nEnt x) key s = false) :
    (firstAt i (l.drop a) = .pointer none ∧ b = lastAt i bm (l.take P)) ∨
    ∃ p x q, l = p ++ x :: q ∧ firstAt i (l.drop a) = ptrTo (nBlk x) ∧ ((aheadK (nEnt x) key s = false ∧ b = lastAt i bm (l.take P)) ∨ (aheadK (nEnt x) key s = true ∧ posOK l bm (p.length + 1) (nBlk x) i ∧ a < p.length + 1 ∧ p.length + 1 ≤ P)) := by
  rcases firstAt_pos (l := l) (a := a) (i := i) (by omega) with ⟨h1, h2⟩ | ⟨p, x, q, h1, h2, h3, h4, h5⟩
  · refine .inl ⟨h1, h.last ha fun y hy => h2 y ?_⟩
    rw [List.drop_take] at hy
    exact List.mem_of_mem_take hy
  · refine .inr ⟨p, x, q, h1, h4, ?_⟩
    by_cases hlt : p.length < P
    · refine .inr ⟨hA x ?_, .inr ⟨p, x, q, h1, rfl, rfl, h3⟩, by omega, by omega⟩
      rw [h1, show P = p.length + (P - p.length) by omega, List.take_length_add_append, show P - p.length = (P - p.length - 1) + 1 by omega]
      simp
    · refine .inl ⟨hN x ?_, h.last ha fun y hy => h5 y ?_⟩
      · have : l.drop p.length = (l.drop P).drop (p.length - P) := by rw [List.drop_drop]; congr 1; omega
        have hm : x ∈ l.drop p.length := by rw [h1, List.drop_left]; simp
        rw [this] at hm
        exact List.mem_of_mem_drop hm
      · rw [h1, List.take_append_of_le_length (by omega), List.drop_take] at hy
        exact List.mem_of_mem_take hy
def zero8 : Array Value := #[.pointer none, .pointer none, .pointer none, .pointer none, .pointer none, .pointer none, .pointer none, .pointer none]
/-- What a round of seek finds. -/
def SeekW (w wr : World) (bm : Nat) (l : List NodeR) (t : Nat) : Prop :=
  Below w.heap.size w wr ∧ wr.heap[w.heap.size + 1]? = some (.cells (pathC l bm t) 50 (0, 0)) ∧ wr.heap[w.heap.size]? = some (.cells zero8 50 (0, 0)) ∧ w.heap.size + 2 ≤ wr.heap.size
theorem SeekW.below {w wr w' : World} {bm : Nat} {l : List NodeR} {t : Nat} (h : SeekW w wr bm l t) (hb : Below wr.heap.size wr w') : SeekW w w' bm l t :=
  ⟨below_then h.1 hb, blk_below hb h.2.1, blk_below hb h.2.2.1, Nat.le_trans h.2.2.2 hb.size⟩
theorem SeekW.store {w wr : World} {bm : Nat} {l : List NodeR} {t : Nat} (h : SeekW w wr bm l (t + 1)) (ht : t < 8) : SeekW w (wr.setCell ⟨w.heap.size + 1, t, none⟩ (ptrTo (lastAt t bm l))) bm l t := by
  have h1 := heap_setCell_same wr (w.heap.size + 1) t _ _ (ptrTo (lastAt t bm l)) h.2.1
  rw [pathC_set l bm t ht] at h1
  refine ⟨h.1.setCell (by simp) _, h1, blk_grown' (grown_set _ _ _ _) h.2.2.1 (by simp), ?_⟩
  simpa using h.2.2.2
end Go.Proofs.YtkkclkknpjapcaaDoor
/-! ### MmL -/
namespace Go.Proofs.YtkkclkknpjapcaaDoor
open Go.RowKit
set_option linter.unusedVariables false
set_option linter.unusedSimpArgs false

theorem node8 : (Tryd.prog.info? 50).map (·.size) = some 8 := by kernel_rfl
theorem set8 {wr : World} {b : Nat} {a0 a1 a2 a3 a4 a5 a6 a7 : Value} {T : TypeId} (c0 c1 c2 c3 c4 c5 c6 c7 : Value) (h : wr.heap[b]? = some (.cells #[a0, a1, a2, a3, a4, a5, a6, a7] T (0, 0))) : ((((((((wr.setCell ⟨b, 0, none⟩ c0).setCell ⟨b, 1, none⟩ c1).setCell ⟨b, 2, none⟩ c2).setCell ⟨b, 3, none⟩ c3).setCell ⟨b, 4, none⟩ c4).setCell ⟨b, 5, none⟩ c5).setCell ⟨b, 6, none⟩ c6).setCell ⟨b, 7, none⟩ c7).heap[b]? = some (.cells #[c0, c1, c2, c3, c4, c5, c6, c7] T (0, 0)) := by
  have h1 : (wr.setCell ⟨b, 0, none⟩ c0).heap[b]? = some (.cells #[c0, a1, a2, a3, a4, a5, a6, a7] T (0, 0)) := heap_setCell_same _ b 0 _ _ c0 h
  have h2 : ((wr.setCell ⟨b, 0, none⟩ c0).setCell ⟨b, 1, none⟩ c1).heap[b]? = some (.cells #[c0, c1, a2, a3, a4, a5, a6, a7] T (0, 0)) := heap_setCell_same _ b 1 _ _ c1 h1
  have h3 : (((wr.setCell ⟨b, 0, none⟩ c0).setCell ⟨b, 1, none⟩ c1).setCell ⟨b, 2, none⟩ c2).heap[b]? = some (.cells #[c0, c1, c2, a3, a4, a5, a6, a7] T (0, 0)) := heap_setCell_same _ b 2 _ _ c2 h2
  have h4 : ((((wr.setCell ⟨b, 0, none⟩ c0).setCell ⟨b, 1, none⟩ c1).setCell ⟨b, 2, none⟩ c2).setCell ⟨b, 3, none⟩ c3).heap[b]? = some (.cells #[c0, c1, c2, c3, a4, a5, a6, a7] T (0, 0)) := heap_setCell_same _ b 3 _ _ c3 h3
  have h5 : (((((wr.setCell ⟨b, 0, none⟩ c0).setCell ⟨b, 1, none⟩ c1).setCell ⟨b, 2, none⟩ c2).setCell ⟨b, 3, none⟩ c3).setCell ⟨b, 4, none⟩ c4).heap[b]? = some (.cells #[c0, c1, c2, c3, c4, a5, a6, a7] T (0, 0)) := heap_setCell_same _ b 4 _ _ c4 h4
  have h6 : ((((((wr.setCell ⟨b, 0, none⟩ c0).setCell ⟨b, 1, none⟩ c1).setCell ⟨b, 2, none⟩ c2).setCell ⟨b, 3, none⟩ c3).setCell ⟨b, 4, none⟩ c4).setCell ⟨b, 5, none⟩ c5).heap[b]? = some (.cells #[c0, c1, c2, c3, c4, c5, a6, a7] T (0, 0)) := heap_setCell_same _ b 5 _ _ c5 h5
  have h7 : (((((((wr.setCell ⟨b, 0, none⟩ c0).setCell ⟨b, 1, none⟩ c1).setCell ⟨b, 2, none⟩ c2).setCell ⟨b, 3, none⟩ c3).setCell ⟨b, 4, none⟩ c4).setCell ⟨b, 5, none⟩ c5).setCell ⟨b, 6, none⟩ c6).heap[b]? = some (.cells #[c0, c1, c2, c3, c4, c5, c6, a7] T (0, 0)) := heap_setCell_same _ b 6 _ _ c6 h6
  have h8 : ((((((((wr.setCell ⟨b, 0, none⟩ c0).setCell ⟨b, 1, none⟩ c1).setCell ⟨b, 2, none⟩ c2).setCell ⟨b, 3, none⟩ c3).setCell ⟨b, 4, none⟩ c4).setCell ⟨b, 5, none⟩ c5).setCell ⟨b, 6, none⟩ c6).setCell ⟨b, 7, none⟩ c7).heap[b]? = some (.cells #[c0, c1, c2, c3, c4, c5, c6, c7] T (0, 0)) := heap_setCell_same _ b 7 _ _ c7 h7
  exact h8
theorem grown_set8 (wr : World) (b : Nat) (c0 c1 c2 c3 c4 c5 c6 c7 : Value) : wr.grownBy ((((((((wr.setCell ⟨b, 0, none⟩ c0).setCell ⟨b, 1, none⟩ c1).setCell ⟨b, 2, none⟩ c2).setCell ⟨b, 3, none⟩ c3).setCell ⟨b, 4, none⟩ c4).setCell ⟨b, 5, none⟩ c5).setCell ⟨b, 6, none⟩ c6).setCell ⟨b, 7, none⟩ c7) (some b) :=
  grown_trans (grown_trans (grown_trans (grown_trans (grown_trans (grown_trans (grown_trans (grown_set _ _ _ _) (grown_set _ _ _ _)) (grown_set _ _ _ _)) (grown_set _ _ _ _)) (grown_set _ _ _ _)) (grown_set _ _ _ _)) (grown_set _ _ _ _)) (grown_set _ _ _ _)
/-- A position's facts, behind a name. -/
def AtP (l : List NodeR) (bm b i P g : Nat) : Prop := ∃ a, posOK l bm a b i ∧ a ≤ P ∧ g = P - a
theorem AtP.mono {l : List NodeR} {bm b i j P g : Nat} (h : AtP l bm b i P g) (hj : j ≤ i) : AtP l bm b j P g := by
  obtain ⟨a, h1, h2, h3⟩ := h
  exact ⟨a, h1.mono hj, h2, h3⟩
/-- A round of seek, at a level: what the pointer there is, and where to go. -/
theorem AtP.step {w w' : World} {base bm : Nat} {l : List NodeR} {n : Nat} {wt : Int} {key : List UInt8} {s : Int} {P b i g : Nat} (hS : SL w base bm l n wt) (hb : Below w.heap.size w w') (h : AtP l bm b i P g) (hi : i < 8) (hP : P ≤ l.length)
    (hA : ∀ x ∈ l.take P, aheadK (nEnt x) key s = true) (hN : ∀ x ∈ l.drop P, aheadK (nEnt x) key s = false) :
    (w'.cell? ⟨b, 5 + i, none⟩ = some (.pointer none) ∧ b = lastAt i bm (l.take P)) ∨
    ∃ b' e Ak nk ck Av nv cv, w'.cell? ⟨b, 5 + i, none⟩ = some (.pointer (some ⟨b', 0, none⟩)) ∧
      (w'.cell? ⟨b', 0, none⟩ = some (.slice Ak nk ck) ∧ w'.cell? ⟨b', 1, none⟩ = some (.int .i64 (eSeq e)) ∧ w'.cell? ⟨b', 2, none⟩ = some (.bool (eGone e)) ∧ w'.cell? ⟨b', 3, none⟩ = some (.int .i64 (eTil e)) ∧ w'.cell? ⟨b', 4, none⟩ = some (.slice Av nv cv) ∧ RB w' Ak nk (eKey e)) ∧
      ((aheadK e key s = false ∧ b = lastAt i bm (l.take P)) ∨ (aheadK e key s = true ∧ ∃ g', g' < g ∧ AtP l bm b' i P g')) := by
  obtain ⟨a, h1, h2, h3⟩ := h
  have hc := below_cell hb (hS.next h1 hi)
  rcases seek_at h1 h2 hP hA hN with ⟨e1, e2⟩ | ⟨p, x, q, e1, e2, e3⟩
  · rw [e1] at hc
    exact .inl ⟨hc, e2⟩
  · rw [e2] at hc
    have hn := hS.2
    rw [e1] at hn
    obtain ⟨c1, c2, c3, _, _, _⟩ := hn.get
    have c1 := blk_below hb c1
    obtain ⟨Ak, ck, hkv, hrk, _⟩ := OB.open_ (OB.below c2 hb)
    obtain ⟨Av, cv, hvv, hrv, _⟩ := OB.open_ (OB.below c3 hb)
    refine .inr ⟨nBlk x, nEnt x, Ak, (eKey (nEnt x)).length, ck, Av, (eVal (nEnt x)).length, cv, hc, ⟨?_, box_at c1 1 _ rfl, box_at c1 2 _ rfl, box_at c1 3 _ rfl, ?_, hrk⟩, ?_⟩
    · rw [← hkv]; exact box_at c1 0 _ rfl
    · rw [← hvv]; exact box_at c1 4 _ rfl
    · rcases e3 with e3 | ⟨e3, e4, e5, e6⟩
      · exact .inl e3
      · exact .inr ⟨e3, P - (p.length + 1), by omega, p.length + 1, e4, e6, rfl⟩
end Go.Proofs.YtkkclkknpjapcaaDoor
