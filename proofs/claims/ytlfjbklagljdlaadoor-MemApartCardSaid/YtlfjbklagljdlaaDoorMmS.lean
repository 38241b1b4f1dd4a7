/- Layer 9: the list of several levels, in plain terms. -/
import Derived.Test.YtlfjbklagljdlaaDoorMmO
namespace Go.Proofs.YtlfjbklagljdlaaDoor
open Go.RowKit
set_option linter.unusedVariables false
set_option linter.unusedSimpArgs false

/-- A node: its block, in how many levels it is, its entry, its key and its value as the memory has them. -/
def NodeR : Type := Nat × Nat × EntR × Value × Value
def nBlk (x : NodeR) : Nat := x.1
def nHt (x : NodeR) : Nat := x.2.1
def nEnt (x : NodeR) : EntR := x.2.2.1
def nKv (x : NodeR) : Value := x.2.2.2.1
def nVv (x : NodeR) : Value := x.2.2.2.2
def mkNode (b h : Nat) (e : EntR) (kv vv : Value) : NodeR := (b, h, e, kv, vv)
def ptrTo (b : Nat) : Value := .pointer (some ⟨b, 0, none⟩)
/-- The first node that is in level i. -/
def firstAt (i : Nat) : List NodeR → Value
  | [] => .pointer none
  | x :: l => if i < nHt x then ptrTo (nBlk x) else firstAt i l
/-- The last node that is in level i, the head where there is none. -/
def lastAt (i : Nat) (b : Nat) : List NodeR → Nat
  | [] => b
  | x :: l => if i < nHt x then lastAt i (nBlk x) l else lastAt i b l
theorem firstAt_skip {i : Nat} {l : List NodeR} (h : ∀ x ∈ l, nHt x ≤ i) (m : List NodeR) : firstAt i (l ++ m) = firstAt i m := by
  induction l with
  | nil => rfl
  | cons x l ih =>
    have hx := h x (by simp)
    rw [List.cons_append, firstAt, if_neg (by omega)]
    exact ih fun y hy => h y (by simp [hy])
theorem firstAt_cases (i : Nat) : ∀ l : List NodeR, (firstAt i l = .pointer none ∧ ∀ x ∈ l, nHt x ≤ i) ∨ ∃ p x q, l = p ++ x :: q ∧ (∀ y ∈ p, nHt y ≤ i) ∧ i < nHt x ∧ firstAt i l = ptrTo (nBlk x) := by
  intro l
  induction l with
  | nil => exact .inl ⟨rfl, fun x h => by cases h⟩
  | cons x l ih =>
    by_cases hx : i < nHt x
    · exact .inr ⟨[], x, l, rfl, (fun y h => by cases h), hx, by rw [firstAt, if_pos hx]⟩
    · rcases ih with ⟨h1, h2⟩ | ⟨p, y, q, h1, h2, h3, h4⟩
      · refine .inl ⟨by rw [firstAt, if_neg hx]; exact h1, fun y hy => ?_⟩
        rcases List.mem_cons.1 hy with rfl | hy
        · omega
        · exact h2 y hy
      · refine .inr ⟨x :: p, y, q, by rw [h1]; rfl, fun z hz => ?_, h3, by rw [firstAt, if_neg hx]; exact h4⟩
        rcases List.mem_cons.1 hz with rfl | hz
        · omega
        · exact h2 z hz
theorem lastAt_skip {i : Nat} {m : List NodeR} (h : ∀ x ∈ m, nHt x ≤ i) : ∀ (l : List NodeR) (b : Nat), lastAt i b (l ++ m) = lastAt i b l := by
  have hm : ∀ b, lastAt i b m = b := by
    induction m with
    | nil => intro b; rfl
    | cons x m ih =>
      intro b
      rw [lastAt, if_neg (by have := h x (by simp); omega)]
      exact ih (fun y hy => h y (by simp [hy])) b
  intro l
  induction l with
  | nil => intro b; exact hm b
  | cons x l ih =>
    intro b
    rw [List.cons_append, lastAt, lastAt]
    split
    · exact ih _
    · exact ih _
theorem lastAt_snoc {i : Nat} {x : NodeR} (hx : i < nHt x) : ∀ (l : List NodeR) (b : Nat), lastAt i b (l ++ [x]) = nBlk x := by
  intro l
  induction l with
  | nil => intro b; rw [List.nil_append, lastAt, if_pos hx]; rfl
  | cons y l ih =>
    intro b
    rw [List.cons_append, lastAt]
    split
    · exact ih _
    · exact ih _
/-- The last node of level i stands in the list, or it is the head; behind it none is in level i. -/
theorem lastAt_cases (i : Nat) : ∀ (l : List NodeR) (b : Nat), (lastAt i b l = b ∧ ∀ x ∈ l, nHt x ≤ i) ∨ ∃ p x q, l = p ++ x :: q ∧ i < nHt x ∧ (∀ y ∈ q, nHt y ≤ i) ∧ lastAt i b l = nBlk x := by
  intro l
  induction l with
  | nil => intro b; exact .inl ⟨rfl, fun x h => by cases h⟩
  | cons x l ih =>
    intro b
    by_cases hx : i < nHt x
    · rw [lastAt, if_pos hx]
      rcases ih (nBlk x) with ⟨h1, h2⟩ | ⟨p, y, q, h1, h2, h3, h4⟩
      · exact .inr ⟨[], x, l, rfl, hx, h2, h1⟩
      · exact .inr ⟨x :: p, y, q, by rw [h1]; rfl, h2, h3, h4⟩
    · rw [lastAt, if_neg hx]
      rcases ih b with ⟨h1, h2⟩ | ⟨p, y, q, h1, h2, h3, h4⟩
      · refine .inl ⟨h1, fun y hy => ?_⟩
        rcases List.mem_cons.1 hy with rfl | hy
        · omega
        · exact h2 y hy
      · exact .inr ⟨x :: p, y, q, by rw [h1]; rfl, h2, h3, h4⟩
/-- What stands in a node's level i: the next node of the level, nothing where the node is not in it. -/
def nextAt (x : NodeR) (l : List NodeR) (i : Nat) : Value := if i < nHt x then firstAt i l else .pointer none
def nodeCells (x : NodeR) (l : List NodeR) : Array Value :=
  #[nKv x, .int .i64 (eSeq (nEnt x)), .bool (eGone (nEnt x)), .int .i64 (eTil (nEnt x)), nVv x, nextAt x l 0, nextAt x l 1, nextAt x l 2, nextAt x l 3, nextAt x l 4, nextAt x l 5, nextAt x l 6, nextAt x l 7]
def headCells (l : List NodeR) (n : Nat) (wt : Int) : Array Value :=
  #[.slice none 0 0, .int .i64 0, .bool false, .int .i64 0, .slice none 0 0, firstAt 0 l, firstAt 1 l, firstAt 2 l, firstAt 3 l, firstAt 4 l, firstAt 5 l, firstAt 6 l, firstAt 7 l, .int .i64 (n : Int), .int .i64 wt]
/-- The nodes as the memory has them. -/
def SLn (w : World) (base : Nat) : List NodeR → Prop
  | [] => True
  | x :: l => w.heap[nBlk x]? = some (.cells (nodeCells x l) 59 (0, 0)) ∧ OB w base (nKv x) (eKey (nEnt x)) ∧ OB w base (nVv x) (eVal (nEnt x)) ∧ nHt x ≤ 8 ∧ base ≤ nBlk x ∧ (∀ y ∈ l, nBlk y ≠ nBlk x) ∧ SLn w base l
/-- A mem as the memory has it. -/
def SL (w : World) (base bm : Nat) (l : List NodeR) (n : Nat) (wt : Int) : Prop :=
  w.heap[bm]? = some (.cells (headCells l n wt) 63 (0, 0)) ∧ SLn w base l
theorem firstAt_mid {i : Nat} (A B : List NodeR) (x y : NodeR) (hb : nBlk x = nBlk y) (hh : nHt x ≤ i ↔ nHt y ≤ i) : firstAt i (A ++ x :: B) = firstAt i (A ++ y :: B) := by
  induction A with
  | nil =>
    rw [List.nil_append, List.nil_append, firstAt, firstAt, hb]
    by_cases h : nHt x ≤ i
    · rw [if_neg (by omega), if_neg (by have := hh.1 h; omega)]
    · rw [if_pos (by omega), if_pos (by have := mt hh.2 h; omega)]
  | cons z A ih =>
    rw [List.cons_append, List.cons_append, firstAt, firstAt, ih]
end Go.Proofs.YtlfjbklagljdlaaDoor
