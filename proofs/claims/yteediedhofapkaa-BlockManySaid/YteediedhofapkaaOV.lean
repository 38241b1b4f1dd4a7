/- Rows of records of one's own: each record is as many cells as its type has; append of one record. -/
import Derived.Test.YteediedhofapkaaB
namespace Go.Proofs.Yteediedhofapkaa
open Go.RowKit
set_option linter.unusedVariables false
set_option linter.unusedSimpArgs false

theorem flat_get {α : Type} {size : Nat} : ∀ (V : List (List α)), (∀ x ∈ V, x.length = size) → ∀ j i, i < size → V.flatten[j * size + i]? = (V[j]?).bind (·[i]?) := by
  intro V
  induction V with
  | nil => intro _ j i _; simp
  | cons x V ih =>
    intro h j i hi
    have hx : x.length = size := h x (by simp)
    cases j with
    | zero =>
      rw [List.flatten_cons, Nat.zero_mul, Nat.zero_add, List.getElem?_append_left (by omega)]
      rfl
    | succ j =>
      rw [List.flatten_cons, List.getElem?_append_right (by rw [hx, Nat.succ_mul]; omega), hx, show (j + 1) * size + i - size = j * size + i by rw [Nat.succ_mul]; omega, ih (fun y hy => h y (by simp [hy])) j i hi]
      rfl
theorem flat_len {α : Type} {size : Nat} : ∀ (V : List (List α)), (∀ x ∈ V, x.length = size) → V.flatten.length = V.length * size := by
  intro V
  induction V with
  | nil => intro _; simp
  | cons x V ih =>
    intro h
    rw [List.flatten_cons, List.length_append, ih (fun y hy => h y (by simp [hy])), h x (by simp), List.length_cons, Nat.succ_mul]
    omega
/-- A row of records of one's own. -/
def OV (w : World) (base : Nat) (e : TypeId) (size : Nat) (v : Value) (V : List (List Value)) : Prop :=
  w.ownsRow base e size v V.length V.flatten ∧ ∀ x ∈ V, x.length = size
section
variable {w w' : World} {base size : Nat} {e : TypeId} {v : Value} {V : List (List Value)}
theorem OV.nil (w : World) (base : Nat) (e : TypeId) (size : Nat) : OV w base e size (.slice none 0 0) [] := ⟨World.ownsRow_nil _ _ _ _, fun x h => by cases h⟩
theorem OV.below (h : OV w base e size v V) (hb : Below w.heap.size w w') : OV w' base e size v V := ⟨own_below h.1 hb, h.2⟩
theorem OV.base_ (h : OV w base e size v V) (k : Nat) (hk : v.ownBlock = some k) : base ≤ k := own_base h.1 k hk
theorem OV.other {row : Option Nat} (h : OV w base e size v V) (hg : w.grownBy w' row) (hne : v.ownBlock = none ∨ v.ownBlock ≠ row) : OV w' base e size v V := ⟨World.ownsRow.kept h.1 hg hne, h.2⟩
theorem OV.open_ (h : OV w base e size v V) : ∃ A c, v = .slice A V.length c ∧ V.length ≤ c := by
  obtain ⟨A, c, rfl⟩ := own_slice h.1
  exact ⟨A, c, rfl, own_cap h.1⟩
theorem OV.openN (h : OV w base e size v V) (n : Nat) (hn : V.length = n) : ∃ A c, v = .slice A n c ∧ n ≤ c := by
  subst hn
  exact h.open_
theorem OV.form (h : OV w base e size v V) (hn : 0 < V.length) : ∃ g c, v = .slice (some ⟨g, 0, none⟩) V.length c ∧ base ≤ g ∧ g < w.heap.size ∧ V.length ≤ c := by
  obtain ⟨g, c, rfl, h1, h2⟩ := World.ownsRow.form h.1 hn
  exact ⟨g, c, rfl, h1, h2, own_cap h.1⟩
theorem OV.cell {g c : Nat} (h : OV w base e size (.slice (some ⟨g, 0, none⟩) V.length c) V) {j i : Nat} (hj : j < V.length) (hi : i < size) : w.cell? ⟨g, j * size + i, none⟩ = (elt [] V j)[i]? := by
  have hlt : j * size + i < V.length * size := by
    have : (j + 1) * size ≤ V.length * size := Nat.mul_le_mul_right _ hj
    rw [Nat.succ_mul] at this
    omega
  rw [World.ownsRow.cellAt h.1 _ hlt, flat_get V h.2 j i hi, elt_get [] hj]
  simp [hj]
theorem OV.blk {g n c : Nat} (h : OV w base e size (.slice (some ⟨g, 0, none⟩) n c) V) : ∃ cur, w.heap[g]? = some (.cells cur e (0, 0)) := by
  rcases h.1.2 with ⟨h', _⟩ | ⟨g', cap', cur, h', _, hg, _⟩
  · simp at h'
  · simp only [Value.slice.injEq, Option.some.injEq, Addr.mk.injEq, and_true, true_and] at h'
    obtain ⟨rfl, _⟩ := h'
    exact ⟨cur, hg⟩
/-- A row of records lies in no block of another type. -/
theorem OV.ne_blk {b : Nat} {cs : Array Value} {e' : TypeId} {fr : Nat × Nat} (h : OV w base e size v V) (hb : w.heap[b]? = some (.cells cs e' fr)) (he : e' ≠ e) : v.ownBlock ≠ some b := by
  rcases h.1.2 with ⟨rfl, _⟩ | ⟨g, cap, cur, rfl, _, hh, _⟩
  · intro e; cases e
  · intro e1
    have e2 : g = b := Option.some.inj e1
    rw [e2, hb] at hh
    injection hh with hh
    injection hh with _ hh _
    exact he hh
theorem OB.ne_blk {xs : List UInt8} {b : Nat} {cs : Array Value} {e' : TypeId} {fr : Nat × Nat} (h : OB w base v xs) (hb : w.heap[b]? = some (.cells cs e' fr)) (he : e' ≠ 5) : v.ownBlock ≠ some b := by
  rcases h.2 with ⟨rfl, _⟩ | ⟨g, cap, cur, rfl, _, hh, _⟩
  · intro e; cases e
  · intro e1
    have e2 : g = b := Option.some.inj e1
    rw [e2, hb] at hh
    injection hh with hh
    injection hh with _ hh _
    exact he hh
/-- Bytes of one's own are apart from a row of records. -/
theorem OB.apart_row {base' : Nat} {u : Value} {xs : List UInt8} (h : OB w base' u xs) (h2 : OV w base e size v V) (he : e ≠ 5) : u.ownBlock = none ∨ u.ownBlock ≠ v.ownBlock := by
  rcases h2.1.2 with ⟨rfl, _⟩ | ⟨g, cap, cur, rfl, _, hh, _⟩
  · cases hu : u.ownBlock with
    | none => exact .inl rfl
    | some k => exact .inr (fun e => by cases e)
  · exact .inr (OB.ne_blk h hh he)
theorem blk_grown' {row : Option Nat} {b : Nat} {o : Obj} (hg : w.grownBy w' row) (h : w.heap[b]? = some o) (hne : row ≠ some b) : w'.heap[b]? = some o := by
  have hlt : b < w.heap.size := by
    rcases Nat.lt_or_ge b w.heap.size with h1 | h1
    · exact h1
    · rw [Array.getElem?_eq_none h1] at h; cases h
  rw [hg.block b hlt (Ne.symm hne)]; exact h
theorem grown_set (w : World) (b i : Nat) (v : Value) : w.grownBy (w.setCell ⟨b, i, none⟩ v) (some b) :=
  ⟨rfl, rfl, rfl, by simp, fun k _ hne => heap_setCell_other w _ k v (fun e => hne (congrArg some e))⟩
end
/-- What a row's records tell, record by record. -/
def RelV {α : Type} (d : α) (P : List Value → α → Prop) (V : List (List Value)) (xs : List α) : Prop := V.length = xs.length ∧ ∀ j, j < V.length → P (elt [] V j) (elt d xs j)
theorem elt_left' {α : Type} (d : α) (a b : List α) {j : Nat} (hj : j < a.length) : elt d (a ++ b) j = elt d a j := by
  unfold elt
  simp [List.getElem?_append, hj]
theorem elt_right' {α : Type} (d : α) (a b : List α) {j : Nat} (hj : a.length ≤ j) : elt d (a ++ b) j = elt d b (j - a.length) := by
  unfold elt
  rw [List.getD_eq_getElem?_getD, List.getD_eq_getElem?_getD, List.getElem?_append_right hj]
section
variable {α : Type} {d : α} {P Q : List Value → α → Prop} {V : List (List Value)} {xs : List α}
theorem RelV.nil : RelV d P [] [] := ⟨rfl, fun j h => absurd h (by simp)⟩
theorem RelV.mono (h : RelV d P V xs) (hPQ : ∀ x a, P x a → Q x a) : RelV d Q V xs := ⟨h.1, fun j hj => hPQ _ _ (h.2 j hj)⟩
theorem RelV.snoc {x : List Value} {a : α} (h : RelV d P V xs) (hx : P x a) : RelV d P (V ++ [x]) (xs ++ [a]) := by
  refine ⟨by simp [h.1], fun j hj => ?_⟩
  rw [List.length_append] at hj
  by_cases hjv : j < V.length
  · rw [elt_left' _ _ _ hjv, elt_left' _ _ _ (by rw [← h.1]; exact hjv)]
    exact h.2 j hjv
  · rw [elt_right' _ _ _ (by omega), elt_right' _ _ _ (by rw [← h.1]; omega), ← h.1]
    have : j - V.length = 0 := by simp at hj; omega
    rw [this]
    exact hx
end
/-- append of one record, a literal, onto a row of one's own. -/
theorem wpV_append1 {ops : Array Oper} {rest : List Oper} {o : Oper} {a : Act} {Q : Exit → Act → World → Prop} (t e : TypeId) (z : Value) (size bytes : Nat) (ht : Try.prog.underlying t = some (.slice e))
    (hinfo : (Try.prog.info? e).map (fun i => (i.zero, i.size, i.bytes)) = some (some z, size, bytes)) (hzs : z.cells.size = size) (hsz : 0 < size) (w0 w : World) (base : Nat) (hgd : o.guard = none) (s x : Operand)
    (ho : o.op = .call { callee := .builtin .append, args := #[s, x], argTypes := #[t, t] })
    (v : Value) (V : List (List Value)) (hs : a.eval s = v) (hown : OV w base e size v V) (cs : Array Value) (hcs : cs.size = size) (hu : ∀ u ∈ cs.toList, u.oneCell' = true) (c2 g : Nat) (hg : g = w.heap.size) (hx : a.eval x = .slice (some ⟨g, 0, none⟩) 1 c2)
    (hmax : V.length + 1 ≤ maxLen) (hbytes : (V.length + 1) * bytes ≤ 140737488355328) (hB : Below base w0 w) (hbase : base ≤ w.heap.size)
    (h : ∀ v' w', OV w' base e size v' (V ++ [cs.toList]) → Below base w0 w' → w.grownBy w' v.ownBlock → AtRow w.heap.size v v' → wpList Try.prog ops Q rest (a.put o.dst v') w') : wpList Try.prog ops Q (o :: rest) a (w.alloc (.cells cs e)) := by
  subst hg
  have hB1 : Below base w0 (w.alloc (.cells cs e)) := hB.alloc hbase _
  refine wpList_append_any _ hgd s x _ ho base e z size bytes ht hinfo hzs hsz v V.length V.flatten hs (World.ownsRow.alloc hown.1 _) _ 1 c2 cs.toList hx (Reads.block (heap_alloc_new w _) (by rw [hcs, Nat.one_mul])) hu hmax hbytes (by simp; omega) ?_
  intro v' w' h2 h3 h4
  refine h v' w' ⟨?_, ?_⟩ (hB1.grown h3 (by simp; omega) (own_base hown.1)) (grown_step (v0 := v) (World.grownBy_alloc w _ _) (AtRow.refl _ v) h3) ?_
  · rw [List.length_append, List.flatten_append]
    simpa using h2
  · intro y hy
    rcases List.mem_append.1 hy with hy | hy
    · exact hown.2 y hy
    · rw [List.mem_singleton] at hy
      subst hy
      simpa using hcs
  · rcases h4 with h4 | h4
    · exact .inl h4
    · exact .inr ⟨_, h4, by simp⟩
end Go.Proofs.Yteediedhofapkaa
