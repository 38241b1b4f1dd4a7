/- Rows of bytes of the call's own, at this seat's types. -/
import Derived.Test.YteediedhofapkaaProg
import Derived.Test.YteediedhofapkaaW
namespace Go.Proofs.Yteediedhofapkaa
open Go.RowKit
set_option linter.unusedVariables false
set_option linter.unusedSimpArgs false

theorem u8info : (Try.prog.info? 5).map (fun i => (i.zero, i.size, i.bytes)) = some (some (.int .u8 0), 1, 1) := by kernel_rfl
/-- The slice value v owns the bytes xs, in a block from base on. -/
def OB (w : World) (base : Nat) (v : Value) (xs : List UInt8) : Prop := w.ownsRow base 5 1 v xs.length (bys xs)
section
variable {w w' : World} {base : Nat} {v : Value} {xs : List UInt8}
theorem OB.nil (w : World) (base : Nat) : OB w base (.slice none 0 0) [] := World.ownsRow_nil _ _ _ _
theorem OB.empty (w : World) (base : Nat) (hb : base ≤ w.heap.size) : OB (w.alloc (.cells #[] 5)) base (.slice (some ⟨w.heap.size, 0, none⟩) 0 0) [] := World.ownsRow_made w #[] 0 hb (by decide) rfl
theorem OB.empty' (w : World) (base g : Nat) (hg : g = w.heap.size) (hb : base ≤ w.heap.size) : OB (w.alloc (.cells #[] 5)) base (.slice (some ⟨g, 0, none⟩) 0 0) [] := by
  subst hg
  exact OB.empty w base hb
theorem OB.open_ (h : OB w base v xs) : ∃ A c, v = .slice A xs.length c ∧ RB w A xs.length xs ∧ xs.length ≤ c := by
  obtain ⟨A, c, rfl⟩ := own_slice h
  exact ⟨A, c, rfl, RB.of_own h, own_cap h⟩
theorem OB.rb {A : Option Addr} {n c : Nat} (h : OB w base (.slice A n c) xs) : RB w A n xs ∧ n ≤ c := by
  obtain ⟨A', c', e, h1, h2⟩ := OB.open_ h
  injection e with e1 e2 e3
  subst e1 e2 e3
  exact ⟨h1, h2⟩
theorem OB.below (h : OB w base v xs) (hb : Below w.heap.size w w') : OB w' base v xs := own_below h hb
theorem OB.alloc (h : OB w base v xs) (o : Obj) : OB (w.alloc o) base v xs := World.ownsRow.alloc h o
theorem OB.drew (h : OB w base v xs) : OB w.drew base v xs := h
theorem OB.drewN (h : OB w base v xs) (n : Nat) : OB (w.drewN n) base v xs := h
theorem OB.mono {base' : Nat} (h : OB w base v xs) (hb : base' ≤ base) : OB w base' v xs := own_mono h hb
theorem OB.base_ (h : OB w base v xs) (k : Nat) (hk : v.ownBlock = some k) : base ≤ k := own_base h k hk
theorem OB.other {row : Option Nat} (h : OB w base v xs) (hg : w.grownBy w' row) (hne : v.ownBlock = none ∨ v.ownBlock ≠ row) : OB w' base v xs := World.ownsRow.kept h hg hne
theorem OB.openN (h : OB w base v xs) (n : Nat) (hn : xs.length = n) : ∃ A c, v = .slice A n c ∧ RB w A n xs ∧ n ≤ c := by
  subst hn
  exact h.open_
theorem OB.form (h : OB w base v xs) (hn : 0 < xs.length) : ∃ g cap, v = .slice (some ⟨g, 0, none⟩) xs.length cap ∧ base ≤ g ∧ g < w.heap.size ∧ xs.length ≤ cap := by
  obtain ⟨g, cap, e, h1, h2⟩ := World.ownsRow.form h hn
  subst e
  exact ⟨g, cap, rfl, h1, h2, own_cap h⟩
theorem OB.cell {g n c : Nat} (h : OB w base (.slice (some ⟨g, 0, none⟩) n c) xs) {j : Nat} (hj : j < n) : w.cell? ⟨g, j, none⟩ = some (.int .u8 (bAt xs j : Int)) := by
  have hl : xs.length = n := h.rb.1.1
  subst hl
  rw [World.ownsRow.cellAt h j (by omega), bys_get _ _ hj]
theorem OB.frozen {g n c : Nat} (h : OB w base (.slice (some ⟨g, 0, none⟩) n c) xs) (j : Nat) : w.frozen? ⟨g, j, none⟩ = false := by
  have hl : xs.length = n := h.rb.1.1
  subst hl
  exact World.ownsRow.frozenAt h j
theorem bys_set (xs : List UInt8) (j : Nat) (y : UInt8) : bys (xs.set j y) = (bys xs).set j (.int .u8 (y.toNat : Int)) := by simp [bys, List.map_set]
theorem OB.set {g n c : Nat} (h : OB w base (.slice (some ⟨g, 0, none⟩) n c) xs) (j : Nat) (y : UInt8) {z : Int} (hz : z = y.toNat) : OB (w.setCell ⟨g, j, none⟩ (.int .u8 z)) base (.slice (some ⟨g, 0, none⟩) n c) (xs.set j y) := by
  have hl : xs.length = n := h.rb.1.1
  subst hl hz
  have := (World.ownsRow.stored h j (.int .u8 (y.toNat : Int))).1
  show World.ownsRow _ _ _ _ _ _ _
  rw [List.length_set, bys_set]
  exact this
theorem OB.blk {g n c : Nat} (h : OB w base (.slice (some ⟨g, 0, none⟩) n c) xs) : ∃ cur, w.heap[g]? = some (.cells cur 5 (0, 0)) := by
  rcases h.2 with ⟨h', _⟩ | ⟨g', cap', cur, h', _, hg, _⟩
  · simp at h'
  · simp only [Value.slice.injEq, Option.some.injEq, Addr.mk.injEq, and_true, true_and] at h'
    obtain ⟨rfl, _⟩ := h'
    exact ⟨cur, hg⟩
theorem OB.len {A : Option Addr} {n c : Nat} (h : OB w base (.slice A n c) xs) : xs.length = n := h.rb.1.1
end
/-- A row that has been appended to lies where it lay, or anew (from block B on). -/
def AtRow (B : Nat) (v0 v : Value) : Prop := v.ownBlock = v0.ownBlock ∨ ∃ k, v.ownBlock = some k ∧ B ≤ k
theorem AtRow.refl (B : Nat) (v : Value) : AtRow B v v := .inl rfl
theorem AtRow.trans {B B' : Nat} {v0 v1 v2 : Value} (h : AtRow B v0 v1) (k : AtRow B' v1 v2) (hB : B ≤ B') : AtRow B v0 v2 := by
  rcases k with k | ⟨j, k, hj⟩
  · rcases h with h | ⟨i, h, hi⟩
    · exact .inl (k.trans h)
    · exact .inr ⟨i, k.trans h, hi⟩
  · exact .inr ⟨j, k, by omega⟩
theorem grown_refl (w : World) (row : Option Nat) : w.grownBy w row := ⟨rfl, rfl, rfl, Nat.le_refl _, fun _ _ _ => rfl⟩
/-- Appended to again: only the first row, and what is new, has turned. -/
theorem grown_step {w w1 w2 : World} {v0 v1 : Value} (h : w.grownBy w1 v0.ownBlock) (ha : AtRow w.heap.size v0 v1) (k : w1.grownBy w2 v1.ownBlock) : w.grownBy w2 v0.ownBlock :=
  ⟨k.os.trans h.os, k.tape.trans h.tape, k.output.trans h.output, Nat.le_trans h.size k.size, fun i hi hne => (k.block i (Nat.lt_of_lt_of_le hi h.size) (by
    rcases ha with ha | ⟨j, ha, hj⟩
    · rw [ha]; exact hne
    · rw [ha]; intro e; injection e with e; omega)).trans (h.block i hi hne)⟩
theorem grown_below {w w1 w2 : World} {row : Option Nat} (h : w.grownBy w1 row) (k : Below w1.heap.size w1 w2) : w.grownBy w2 row :=
  ⟨k.os.trans h.os, k.tape.trans h.tape, k.output.trans h.output, Nat.le_trans h.size k.size, fun i hi hne => (k.block i (Nat.lt_of_lt_of_le hi h.size)).trans (h.block i hi hne)⟩
theorem below_grown {w w1 : World} (h : Below w.heap.size w w1) (row : Option Nat) : w.grownBy w1 row := ⟨h.os, h.tape, h.output, h.size, fun i hi _ => h.block i hi⟩
section
variable {ops : Array Oper} {rest : List Oper} {o : Oper} {a : Act} {Q : Exit → Act → World → Prop}
/-- append of bytes onto a row of the call's own. -/
theorem wpB_append (w0 w : World) (base : Nat) (hgd : o.guard = none) (s x : Operand)
    (ho : o.op = .call { callee := .builtin .append, args := #[s, x], argTypes := #[23, 23] })
    (v : Value) (xs : List UInt8) (hs : a.eval s = v) (hown : OB w base v xs) (A : Option Addr) (m c : Nat) (ys : List UInt8) (hx : a.eval x = .slice A m c) (hr : RB w A m ys)
    (hbytes : xs.length + ys.length ≤ 140737488355328) (hB : Below base w0 w) (hbase : base ≤ w.heap.size)
    (h : ∀ v' w', OB w' base v' (xs ++ ys) → Below base w0 w' → w.grownBy w' v.ownBlock → AtRow w.heap.size v v' → wpList Try.prog ops Q rest (a.put o.dst v') w') : wpList Try.prog ops Q (o :: rest) a w := by
  have hm := hr.1
  refine wpList_append_any w hgd s x _ ho base 5 (.int .u8 0) 1 1 Try.underlying23 u8info rfl (by omega) v xs.length (bys xs) hs hown A m c (bys ys) hx hr.reads (bys_one _) (by simp only [maxLen]; omega) (by omega) hbase ?_
  intro v' w' h1 h2 h3
  refine h v' w' ?_ (hB.grown h2 hbase (own_base hown)) h2 (h3.imp id fun e => ⟨_, e, Nat.le_refl _⟩)
  show w'.ownsRow _ _ _ _ _ _
  rw [List.length_append, bys_append, hm]
  exact h1
/-- The same inside a region that draws its order. -/
theorem stepB_append {K : Act → World → Prop} {E : Prop} (w0 w : World) (base : Nat) (s x : Operand)
    (ho : o.op = .call { callee := .builtin .append, args := #[s, x], argTypes := #[23, 23] }) (hwant : Region.wanted o (yielded ops a.tmps) = true)
    (v : Value) (xs : List UInt8) (hs : a.eval s = v) (hown : OB w base v xs) (A : Option Addr) (m c : Nat) (ys : List UInt8) (hx : a.eval x = .slice A m c) (hr : RB w A m ys)
    (hbytes : xs.length + ys.length ≤ 140737488355328) (hB : Below base w0 w) (hbase : base ≤ w.heap.size)
    (h : ∀ v' w', OB w' base v' (xs ++ ys) → Below base w0 w' → w.grownBy w' v.ownBlock → AtRow w.heap.size v v' → K (a.put o.dst v') w') :
    if Region.wanted o (yielded ops a.tmps) = true then Oper.wp Try.prog o a w K Q else E := by
  have hm := hr.1
  refine step_append_any w rfl hwant s x _ ho base 5 (.int .u8 0) 1 1 Try.underlying23 u8info rfl (by omega) v xs.length (bys xs) hs hown A m c (bys ys) hx hr.reads (bys_one _) (by simp only [maxLen]; omega) (by omega) hbase ?_
  intro v' w' h1 h2 h3
  refine h v' w' ?_ (hB.grown h2 hbase (own_base hown)) h2 (h3.imp id fun e => ⟨_, e, Nat.le_refl _⟩)
  show w'.ownsRow _ _ _ _ _ _
  rw [List.length_append, bys_append, hm]
  exact h1
/-- append of one byte. -/
theorem wpB_append1 (w0 w : World) (base : Nat) (hgd : o.guard = none) (s x : Operand)
    (ho : o.op = .call { callee := .builtin .append, args := #[s, x], argTypes := #[23, 23] })
    (v : Value) (xs : List UInt8) (hs : a.eval s = v) (hown : OB w base v xs) (y : UInt8) (z : Int) (hz : z = y.toNat) (c : Nat) (hx : a.eval x = .slice (some ⟨w.heap.size, 0, none⟩) 1 c)
    (hbytes : xs.length + 1 ≤ 140737488355328) (hB : Below base w0 w) (hbase : base ≤ w.heap.size)
    (h : ∀ v' w', OB w' base v' (xs ++ [y]) → Below base w0 w' → w.grownBy w' v.ownBlock → AtRow w.heap.size v v' → wpList Try.prog ops Q rest (a.put o.dst v') w') : wpList Try.prog ops Q (o :: rest) a (w.alloc (.cells #[.int .u8 z] 5)) := by
  subst hz
  refine wpB_append w0 _ base hgd s x ho v xs hs (hown.alloc _) (some ⟨w.heap.size, 0, none⟩) 1 c [y] hx (RB.lit w [y] _ _ _ rfl (by simp)) (by simpa using hbytes) (hB.alloc hbase _) (by simp; omega) ?_
  intro v' w' h1 h2 h3 h4
  refine h v' w' h1 h2 ⟨h3.os, h3.tape, h3.output, by have := h3.size; simp at this; omega, fun k hk hne => (h3.block k (by simp; omega) hne).trans (Below.heap_alloc _ _ _ hk)⟩ ?_
  rcases h4 with h4 | ⟨k, h4, hk⟩
  · exact .inl h4
  · exact .inr ⟨k, h4, by simp at hk; omega⟩
end

theorem strB : Try.prog.underlying 9 = some .string := by kernel_rfl
theorem OB.conv {w : World} {base : Nat} {v : Value} {xs : List UInt8} (h : OB w base v xs) : (convert 23 9 v).run Try.prog w = .ok (.string (bstr xs)) w := by
  obtain ⟨A, c, rfl, hr, _⟩ := h.open_
  exact run_bstr Try.underlying23 Try.underlying5 strB hr c
theorem RB.conv {w : World} {A : Option Addr} {n : Nat} {xs : List UInt8} (h : RB w A n xs) (c : Nat) : (convert 23 9 (.slice A n c)).run Try.prog w = .ok (.string (bstr xs)) w :=
  run_bstr Try.underlying23 Try.underlying5 strB h c
/-! ## Slice expressions over bytes: the value under one name -/
theorem elemB : Try.prog.underlying 23 = some (.slice (Try.prog.elem 23)) := by kernel_rfl
theorem sizeB (w : World) : (sizeOf (Try.prog.elem 23)).run Try.prog w = .ok 1 w := by
  obtain ⟨i, hi, _, hs, _⟩ := info_parts u8info
  have he : Try.prog.elem 23 = 5 := by kernel_rfl
  rw [he]
  simp [sizeOf, typeInfo, hi, hs]
theorem cutB {A : Option Addr} {n c : Nat} (hc : n ≤ c) {lo hi : Nat} (h1 : lo ≤ hi) (h2 : hi ≤ n) (L H : Int) (hL : L = (lo : Int)) (hH : H = (hi : Int)) :
    ∃ A2 c2, (∀ w, (Instr.slice 23 (.slice A n c) (some (.int .i64 L)) (some (.int .i64 H)) none).run Try.prog w = .ok (.slice A2 (hi - lo) c2) w) ∧ (∀ w xs, RB w A n xs → RB w A2 (hi - lo) ((xs.drop lo).take (hi - lo))) ∧ hi - lo ≤ c2 := by
  subst hL hH
  refine ⟨if c = lo then A else A.map (·.add lo), c - lo, fun w => ?_, fun w xs h => h.slice h1 h2 hc, by omega⟩
  rw [run_slice_lh (P := Try.prog) w 23 A n c elemB .i64 .i64 lo hi (by omega) (by omega) (by omega), sizeB]
  simp [sliced, Result.andThen]
theorem cutB_lo {A : Option Addr} {n c : Nat} (hc : n ≤ c) {lo : Nat} (h1 : lo ≤ n) (L : Int) (hL : L = (lo : Int)) :
    ∃ A2 c2, (∀ w, (Instr.slice 23 (.slice A n c) (some (.int .i64 L)) none none).run Try.prog w = .ok (.slice A2 (n - lo) c2) w) ∧ (∀ w xs, RB w A n xs → RB w A2 (n - lo) (xs.drop lo)) ∧ n - lo ≤ c2 := by
  subst hL
  refine ⟨if c = lo then A else A.map (·.add lo), c - lo, fun w => ?_, fun w xs h => h.suf h1 hc, by omega⟩
  rw [run_slice_l (P := Try.prog) w 23 A n c elemB .i64 lo (by omega) (by omega), sizeB]
  simp [sliced, Result.andThen]
theorem cutB_hi {A : Option Addr} {n c : Nat} (hc : n ≤ c) {hi : Nat} (h1 : hi ≤ n) (H : Int) (hH : H = (hi : Int)) :
    ∃ c2, (∀ w, (Instr.slice 23 (.slice A n c) none (some (.int .i64 H)) none).run Try.prog w = .ok (.slice A hi c2) w) ∧ (∀ w xs, RB w A n xs → RB w A hi (xs.take hi)) ∧ hi ≤ c2 := by
  subst hH
  refine ⟨c, fun w => ?_, fun w xs h => h.pre h1, by omega⟩
  rw [run_slice_h (P := Try.prog) w 23 A n c elemB .i64 hi (by omega) (by omega), sizeB]
  cases A <;> simp [sliced, Result.andThen, Addr.add]
end Go.Proofs.Yteediedhofapkaa
