/- Shared texts, part S02: B, Cmp, OV. -/
import Derived.Test.YtkkclkknpjapcaaDoorProg
import Derived.Lib.Bytealg
import Derived.Test.YtkkclkknpjapcaaDoorS01
/-! ### B -/
namespace Go.Proofs.YtkkclkknpjapcaaDoor
open Go.RowKit
set_option linter.unusedVariables false
set_option linter.unusedSimpArgs false

theorem u8info : (Tryd.prog.info? 5).map (fun i => (i.zero, i.size, i.bytes)) = some (some (.int .u8 0), 1, 1) := by kernel_rfl
/-- The slice value v owns the bytes xs, in a block from base on. -/
def OB (w : World) (base : Nat) (v : Value) (xs : List UInt8) : Prop := w.ownsRow base 5 1 v xs.length (bys xs)
section
variable {w w' : World} {base : Nat} {v : Value} {xs : List UInt8}
theorem OB.nil (w : World) (base : Nat) : OB w base (.slice none 0 0) [] := World.ownsRow_nil _ _ _ _
theorem OB.empty (w : World) (base : Nat) (hb : base ≤ w.heap.size) : OB (w.alloc (.cells #[] 5)) base (.slice (some ⟨w.heap.size, 0, none⟩) 0 0) [] := World.ownsRow_made w #[] 0 hb (by decide) rfl
theorem OB.empty' (w : World) (base g : Nat) (hg : g = w.heap.size) (hb : base ≤ w.heap.size) : OB (w.alloc (.cells #[] 5)) base (.slice (some ⟨g, 0, none⟩) 0 0) [] := by
  subst hg
  exact OB.empty w base hb
theorem OB.open_ (h : OB w base v xs) : ∃ A c, v = .slice A xs.length c ∧ RB w A xs.length xs ∧ xs.length ≤ c := by
  obtain ⟨A, c, rfl⟩ := own_slice h
  exact ⟨A, c, rfl, RB.of_own h, own_cap h⟩
theorem OB.rb {A : Option Addr} {n c : Nat} (h : OB w base (.slice A n c) xs) : RB w A n xs ∧ n ≤ c := by
  obtain ⟨A', c', e, h1, h2⟩ := OB.open_ h
  injection e with e1 e2 e3
  subst e1 e2 e3
  exact ⟨h1, h2⟩
theorem OB.below (h : OB w base v xs) (hb : Below w.heap.size w w') : OB w' base v xs := own_below h hb
theorem OB.alloc (h : OB w base v xs) (o : Obj) : OB (w.alloc o) base v xs := World.ownsRow.alloc h o
theorem OB.drew (h : OB w base v xs) : OB w.drew base v xs := h
theorem OB.drewN (h : OB w base v xs) (n : Nat) : OB (w.drewN n) base v xs := h
theorem OB.mono {base' : Nat} (h : OB w base v xs) (hb : base' ≤ base) : OB w base' v xs := own_mono h hb
theorem OB.base_ (h : OB w base v xs) (k : Nat) (hk : v.ownBlock = some k) : base ≤ k := own_base h k hk
theorem OB.other {row : Option Nat} (h : OB w base v xs) (hg : w.grownBy w' row) (hne : v.ownBlock = none ∨ v.ownBlock ≠ row) : OB w' base v xs := World.ownsRow.kept h hg hne
theorem OB.openN (h : OB w base v xs) (n : Nat) (hn : xs.length = n) : ∃ A c, v = .slice A n c ∧ RB w A n xs ∧ n ≤ c := by
  subst hn
  exact h.open_
theorem OB.form (h : OB w base v xs) (hn : 0 < xs.length) : ∃ g cap, v = .slice (some ⟨g, 0, none⟩) xs.length cap ∧ base ≤ g ∧ g < w.heap.size ∧ xs.length ≤ cap := by
  obtain ⟨g, cap, e, h1, h2⟩ := World.ownsRow.form h hn
  subst e
  exact ⟨g, cap, rfl, h1, h2, own_cap h⟩
theorem OB.cell {g n c : Nat} (h : OB w base (.slice (some ⟨g, 0, none⟩) n c) xs) {j : Nat} (hj : j < n) : w.cell? ⟨g, j, none⟩ = some (.int .u8 (bAt xs j : Int)) := by
  have hl : xs.length = n := h.rb.1.1
  subst hl
  rw [World.ownsRow.cellAt h j (by omega), bys_get _ _ hj]
theorem OB.frozen {g n c : Nat} (h : OB w base (.slice (some ⟨g, 0, none⟩) n c) xs) (j : Nat) : w.frozen? ⟨g, j, none⟩ = false := by
  have hl : xs.length = n := h.rb.1.1
  subst hl
  exact World.ownsRow.frozenAt h j
theorem bys_set (xs : List UInt8) (j : Nat) (y : UInt8) : bys (xs.set j y) = (bys xs).set j (.int .u8 (y.toNat : Int)) := by simp [bys, List.map_set]
theorem OB.set {g n c : Nat} (h : OB w base (.slice (some ⟨g, 0, none⟩) n c) xs) (j : Nat) (y : UInt8) {z : Int} (hz : z = y.toNat) : OB (w.setCell ⟨g, j, none⟩ (.int .u8 z)) base (.slice (some ⟨g, 0, none⟩) n c) (xs.set j y) := by
  have hl : xs.length = n := h.rb.1.1
  subst hl hz
  have := (World.ownsRow.stored h j (.int .u8 (y.toNat : Int))).1
  show World.ownsRow _ _ _ _ _ _ _
  rw [List.length_set, bys_set]
  exact this
theorem OB.blk {g n c : Nat} (h : OB w base (.slice (some ⟨g, 0, none⟩) n c) xs) : ∃ cur, w.heap[g]? = some (.cells cur 5 (0, 0)) := by
  rcases h.2 with ⟨h', _⟩ | ⟨g', cap', cur, h', _, hg, _⟩
  · simp at h'
  · simp only [Value.slice.injEq, Option.some.injEq, Addr.mk.injEq, and_true, true_and] at h'
    obtain ⟨rfl, _⟩ := h'
    exact ⟨cur, hg⟩
theorem OB.len {A : Option Addr} {n c : Nat} (h : OB w base (.slice A n c) xs) : xs.length = n := h.rb.1.1
end
/-- A row that has been appended to lies where it lay, or anew (from block B on). -/
def AtRow (B : Nat) (v0 v : Value) : Prop := v.ownBlock = v0.ownBlock ∨ ∃ k, v.ownBlock = some k ∧ B ≤ k
theorem AtRow.refl (B : Nat) (v : Value) : AtRow B v v := .inl rfl
theorem AtRow.trans {B B' : Nat} {v0 v1 v2 : Value} (h : AtRow B v0 v1) (k : AtRow B' v1 v2) (hB : B ≤ B') : AtRow B v0 v2 := by
  rcases k with k | ⟨j, k, hj⟩
  · rcases h with h | ⟨i, h, hi⟩
    · exact .inl (k.trans h)
    · exact .inr ⟨i, k.trans h, hi⟩
  · exact .inr ⟨j, k, by omega⟩
theorem grown_refl (w : World) (row : Option Nat) : w.grownBy w row := ⟨rfl, rfl, rfl, Nat.le_refl _, fun _ _ _ => rfl⟩
/-- Appended to again: only the first row, and what is new, has turned. -/
theorem grown_step {w w1 w2 : World} {v0 v1 : Value} (h : w.grownBy w1 v0.ownBlock) (ha : AtRow w.heap.size v0 v1) (k : w1.grownBy w2 v1.ownBlock) : w.grownBy w2 v0.ownBlock :=
  ⟨k.os.trans h.os, k.tape.trans h.tape, k.output.trans h.output, Nat.le_trans h.size k.size, fun i hi hne => (k.block i (Nat.lt_of_lt_of_le hi h.size) (by
    rcases ha with ha | ⟨j, ha, hj⟩
    · rw [ha]; exact hne
    · rw [ha]; intro e; injection e with e; omega)).trans (h.block i hi hne)⟩
theorem grown_below {w w1 w2 : World} {row : Option Nat} (h : w.grownBy w1 row) (k : Below w1.heap.size w1 w2) : w.grownBy w2 row :=
  ⟨k.os.trans h.os, k.tape.trans h.tape, k.output.trans h.output, Nat.le_trans h.size k.size, fun i hi hne => (k.block i (Nat.lt_of_lt_of_le hi h.size)).trans (h.block i hi hne)⟩
theorem below_grown {w w1 : World} (h : Below w.heap.size w w1) (row : Option Nat) : w.grownBy w1 row := ⟨h.os, h.tape, h.output, h.size, fun i hi _ => h.block i hi⟩
section
variable {ops : Array Oper} {rest : List Oper} {o : Oper} {a : Act} {Q : Exit → Act → World → Prop}
/-- append of bytes onto a row of the call's own. -/
theorem wpB_append (w0 w : World) (base : Nat) (hgd : o.guard = none) (s x : Operand)
    (ho : o.op = .call { callee := .builtin .append, args := #[s, x], argTypes := #[23, 23] })
    (v : Value) (xs : List UInt8) (hs : a.eval s = v) (hown : OB w base v xs) (A : Option Addr) (m c : Nat) (ys : List UInt8) (hx : a.eval x = .slice A m c) (hr : RB w A m ys)
    (hbytes : xs.length + ys.length ≤ 140737488355328) (hB : Below base w0 w) (hbase : base ≤ w.heap.size)
    (h : ∀ v' w', OB w' base v' (xs ++ ys) → Below base w0 w' → w.grownBy w' v.ownBlock → AtRow w.heap.size v v' → wpList Tryd.prog ops Q rest (a.put o.dst v') w') : wpList Tryd.prog ops Q (o :: rest) a w := by
  have hm := hr.1
  refine wpList_append_any w hgd s x _ ho base 5 (.int .u8 0) 1 1 Tryd.underlying23 u8info rfl (by omega) v xs.length (bys xs) hs hown A m c (bys ys) hx hr.reads (bys_one _) (by simp only [maxLen]; omega) (by omega) hbase ?_
  intro v' w' h1 h2 h3
  refine h v' w' ?_ (hB.grown h2 hbase (own_base hown)) h2 (h3.imp id fun e => ⟨_, e, Nat.le_refl _⟩)
  show w'.ownsRow _ _ _ _ _ _
  rw [List.length_append, bys_append, hm]
  exact h1
/-- The same inside a region that draws its order. -/
theorem stepB_append {K : Act → World → Prop} {E : Prop} (w0 w : World) (base : Nat) (s x : Operand)
    (ho : o.op = .call { callee := .builtin .append, args := #[s, x], argTypes := #[23, 23] }) (hwant : Region.wanted o (yielded ops a.tmps) = true)
    (v : Value) (xs : List UInt8) (hs : a.eval s = v) (hown : OB w base v xs) (A : Option Addr) (m c : Nat) (ys : List UInt8) (hx : a.eval x = .slice A m c) (hr : RB w A m ys)
    (hbytes : xs.length + ys.length ≤ 140737488355328) (hB : Below base w0 w) (hbase : base ≤ w.heap.size)
    (h : ∀ v' w', OB w' base v' (xs ++ ys) → Below base w0 w' → w.grownBy w' v.ownBlock → AtRow w.heap.size v v' → K (a.put o.dst v') w') :
    if Region.wanted o (yielded ops a.tmps) = true then Oper.wp Tryd.prog o a w K Q else E := by
  have hm := hr.1
  refine step_append_any w rfl hwant s x _ ho base 5 (.int .u8 0) 1 1 Tryd.underlying23 u8info rfl (by omega) v xs.length (bys xs) hs hown A m c (bys ys) hx hr.reads (bys_one _) (by simp only [maxLen]; omega) (by omega) hbase ?_
  intro v' w' h1 h2 h3
  refine h v' w' ?_ (hB.grown h2 hbase (own_base hown)) h2 (h3.imp id fun e => ⟨_, e, Nat.le_refl _⟩)
  show w'.ownsRow _ _ _ _ _ _
  rw [List.length_append, bys_append, hm]
  exact h1
/-- append of one byte. -/
theorem wpB_append1 (w0 w : World) (base : Nat) (hgd : o.guard = none) (s x : Operand)
    (ho : o.op = .call { callee := .builtin .append, args := #[s, x], argTypes := #[23, 23] })
    (v : Value) (xs : List UInt8) (hs : a.eval s = v) (hown : OB w base v xs) (y : UInt8) (z : Int) (hz : z = y.toNat) (c : Nat) (hx : a.eval x = .slice (some ⟨w.heap.size, 0, none⟩) 1 c)
    (hbytes : xs.length + 1 ≤ 140737488355328) (hB : Below base w0 w) (hbase : base ≤ w.heap.size)
    (h : ∀ v' w', OB w' base v' (xs ++ [y]) → Below base w0 w' → w.grownBy w' v.ownBlock → AtRow w.heap.size v v' → wpList Tryd.prog ops Q rest (a.put o.dst v') w') : wpList Tryd.prog ops Q (o :: rest) a (w.alloc (.cells #[.int .u8 z] 5)) := by
  subst hz
  refine wpB_append w0 _ base hgd s x ho v xs hs (hown.alloc _) (some ⟨w.heap.size, 0, none⟩) 1 c [y] hx (RB.lit w [y] _ _ _ rfl (by simp)) (by simpa using hbytes) (hB.alloc hbase _) (by simp; omega) ?_
  intro v' w' h1 h2 h3 h4
  refine h v' w' h1 h2 ⟨h3.os, h3.tape, h3.output, by have := h3.size; simp at this; omega, fun k hk hne => (h3.block k (by simp; omega) hne).trans (Below.heap_alloc _ _ _ hk)⟩ ?_
  rcases h4 with h4 | ⟨k, h4, hk⟩
  · exact .inl h4
  · exact .inr ⟨k, h4, by simp at hk; omega⟩
end

theorem strB : Tryd.prog.underlying 9 = some .string := by kernel_rfl
theorem OB.conv {w : World} {base : Nat} {v : Value} {xs : List UInt8} (h : OB w base v xs) : (convert 23 9 v).run Tryd.prog w = .ok (.string (bstr xs)) w := by
  obtain ⟨A, c, rfl, hr, _⟩ := h.open_
  exact run_bstr Tryd.underlying23 Tryd.underlying5 strB hr c
theorem RB.conv {w : World} {A : Option Addr} {n : Nat} {xs : List UInt8} (h : RB w A n xs) (c : Nat) : (convert 23 9 (.slice A n c)).run Tryd.prog w = .ok (.string (bstr xs)) w :=
  run_bstr Tryd.underlying23 Tryd.underlying5 strB h c
/-! ## Slice expressions over bytes: the value under one name -/
theorem elemB : Tryd.prog.underlying 23 = some (.slice (Tryd.prog.elem 23)) := by kernel_rfl
theorem sizeB (w : World) : (sizeOf (Tryd.prog.elem 23)).run Tryd.prog w = .ok 1 w := by
  obtain ⟨i, hi, _, hs, _⟩ := info_parts u8info
  have he : Tryd.prog.elem 23 = 5 := by kernel_rfl
  rw [he]
  simp [sizeOf, typeInfo, hi, hs]
theorem cutB {A : Option Addr} {n c : Nat} (hc : n ≤ c) {lo hi : Nat} (h1 : lo ≤ hi) (h2 : hi ≤ n) (L H : Int) (hL : L = (lo : Int)) (hH : H = (hi : Int)) :
    ∃ A2 c2, (∀ w, (Instr.slice 23 (.slice A n c) (some (.int .i64 L)) (some (.int .i64 H)) none).run Tryd.prog w = .ok (.slice A2 (hi - lo) c2) w) ∧ (∀ w xs, RB w A n xs → RB w A2 (hi - lo) ((xs.drop lo).take (hi - lo))) ∧ hi - lo ≤ c2 := by
  subst hL hH
  refine ⟨if c = lo then A else A.map (·.add lo), c - lo, fun w => ?_, fun w xs h => h.slice h1 h2 hc, by omega⟩
  rw [run_slice_lh (P := Tryd.prog) w 23 A n c elemB .i64 .i64 lo hi (by omega) (by omega) (by omega), sizeB]
  simp [sliced, Result.andThen]
theorem cutB_lo {A : Option Addr} {n c : Nat} (hc : n ≤ c) {lo : Nat} (h1 : lo ≤ n) (L : Int) (hL : L = (lo : Int)) :
    ∃ A2 c2, (∀ w, (Instr.slice 23 (.slice A n c) (some (.int .i64 L)) none none).run Tryd.prog w = .ok (.slice A2 (n - lo) c2) w) ∧ (∀ w xs, RB w A n xs → RB w A2 (n - lo) (xs.drop lo)) ∧ n - lo ≤ c2 := by
  subst hL
  refine ⟨if c = lo then A else A.map (·.add lo), c - lo, fun w => ?_, fun w xs h => h.suf h1 hc, by omega⟩
  rw [run_slice_l (P := Tryd.prog) w 23 A n c elemB .i64 lo (by omega) (by omega), sizeB]
  simp [sliced, Result.andThen]
theorem cutB_hi {A : Option Addr} {n c : Nat} (hc : n ≤ c) {hi : Nat} (h1 : hi ≤ n) (H : Int) (hH : H = (hi : Int)) :
    ∃ c2, (∀ w, (Instr.slice 23 (.slice A n c) none (some (.int .i64 H)) none).run Tryd.prog w = .ok (.slice A hi c2) w) ∧ (∀ w xs, RB w A n xs → RB w A hi (xs.take hi)) ∧ hi ≤ c2 := by
  subst hH
  refine ⟨c, fun w => ?_, fun w xs h => h.pre h1, by omega⟩
  rw [run_slice_h (P := Tryd.prog) w 23 A n c elemB .i64 hi (by omega) (by omega), sizeB]
  cases A <;> simp [sliced, Result.andThen, Addr.add]
end Go.Proofs.YtkkclkknpjapcaaDoor
/-! ### Cmp -/
namespace Go.Proofs.YtkkclkknpjapcaaDoor
open Go.RowKit
set_option linter.unusedVariables false
set_option linter.unusedSimpArgs false

/-- -1, 0, 1: in the order of bytes. -/
def cmpB (xs ys : List UInt8) : Int := Lib.compareBytes xs ys
theorem cmpB_less : ∀ (xs ys : List UInt8), cmpB xs ys = if Op.bytesLess xs ys = true then -1 else if Op.bytesLess ys xs = true then 1 else 0 := by
  intro xs
  induction xs with
  | nil =>
    intro ys
    cases ys with
    | nil => rfl
    | cons y ys => rfl
  | cons x xs ih =>
    intro ys
    cases ys with
    | nil => rfl
    | cons y ys =>
      have ih := ih ys
      unfold cmpB at ih ⊢
      simp only [Lib.compareBytes, Op.bytesLess]
      by_cases h1 : x < y
      · simp [h1]
      · by_cases h2 : y < x
        · have h3 : ¬ x = y := by intro e; subst e; exact h1 h2
          simp [h1, h2, h3]
        · have h3 : x = y := by
            apply UInt8.toNat_inj.1
            have a : ¬ x.toNat < y.toNat := h1
            have b : ¬ y.toNat < x.toNat := h2
            omega
          subst h3
          simp [h1, ih]
theorem cmpB_zero : ∀ (xs ys : List UInt8), cmpB xs ys = 0 ↔ xs = ys := by
  intro xs
  induction xs with
  | nil =>
    intro ys
    cases ys with
    | nil => simp [cmpB, Lib.compareBytes]
    | cons y ys => simp [cmpB, Lib.compareBytes]
  | cons x xs ih =>
    intro ys
    cases ys with
    | nil => simp [cmpB, Lib.compareBytes]
    | cons y ys =>
      have ih := ih ys
      unfold cmpB at ih ⊢
      simp only [Lib.compareBytes]
      by_cases h1 : x < y
      · have h3 : ¬ x = y := by intro e; subst e; exact absurd (show x.toNat < x.toNat from h1) (Nat.lt_irrefl _)
        simp [h1, h3]
      · by_cases h2 : y < x
        · have h3 : ¬ x = y := by intro e; subst e; exact h1 h2
          simp [h1, h2, h3]
        · have h3 : x = y := by
            apply UInt8.toNat_inj.1
            have a : ¬ x.toNat < y.toNat := h1
            have b : ¬ y.toNat < x.toNat := h2
            omega
          subst h3
          simp [h1, ih]
theorem run_gtr (P : Program) (t : TypeId) (xs ys : List UInt8) (u : World) : (binOp .gtr t (.string (bstr xs)) (.string (bstr ys))).run P u = .ok (.bool (decide (cmpB xs ys = 1))) u := by
  have b1 : (bstr xs).toList = xs := ByteArray.toList_mk xs
  have b2 : (bstr ys).toList = ys := ByteArray.toList_mk ys
  have hz := cmpB_zero xs ys
  have e : binOp .gtr t (.string (bstr xs)) (.string (bstr ys)) = pure (.bool !(Op.bytesLess xs ys || xs == ys)) := by simp [binOp, Op.stringOp, b1, b2]
  rw [e, Sem.run_pure]
  congr 2
  rw [cmpB_less] at hz ⊢
  cases h1 : Op.bytesLess xs ys with
  | true => simp
  | false =>
    rw [h1] at hz
    cases h2 : Op.bytesLess ys xs with
    | true =>
      rw [h2] at hz
      simp at hz
      simp [hz]
    | false =>
      rw [h2] at hz
      simp at hz
      simp [hz]
theorem cmpB_bound (xs ys : List UInt8) : -1 ≤ cmpB xs ys ∧ cmpB xs ys ≤ 1 := by
  rw [cmpB_less]
  split
  · omega
  · split <;> omega
theorem run_loadBytes {P : Program} (w : World) (b : Nat) : ∀ (xs : List UInt8) (o : Nat) (acc : List UInt8), (∀ j, j < xs.length → w.cell? ⟨b, o + j, none⟩ = some (.int .u8 (bAt xs j : Int))) →
    (Extern.Bytes.loadBytes ⟨b, o, none⟩ xs.length (bstr acc)).run P w = .ok (bstr (acc ++ xs)) w := by
  intro xs
  induction xs with
  | nil => intro o acc _; simp [Extern.Bytes.loadBytes]
  | cons x xs ih =>
    intro o acc h
    have h0 := h 0 (by simp)
    rw [Nat.add_zero, bAt_get (by simp)] at h0
    have ih := ih (o + 1) (acc ++ [x]) (fun j hj => by
      have := h (j + 1) (by simp; omega)
      rw [show o + 1 + j = o + (j + 1) by omega, this]
      simp [bAt])
    rw [List.length_cons]
    have hx : ((x.toNat : Int).toNat.toUInt8) = x := by simp
    simp only [Extern.Bytes.loadBytes, Sem.run_bind]
    rw [run_load]
    simp only [h0, Result.andThen, List.getElem_cons_zero]
    rw [add_plain]
    have e : (bstr acc).push x = bstr (acc ++ [x]) := by simp [bstr, ByteArray.push]
    rw [hx, e, ih]
    simp
theorem run_bytesOf {P : Program} {w : World} {A : Option Addr} {n : Nat} {xs : List UInt8} (h : RB w A n xs) (c : Nat) : (Extern.Bytes.bytesOf (.slice A n c)).run P w = .ok (bstr xs) w := by
  have hl := h.1
  rcases Nat.eq_zero_or_pos n with h0 | h0
  · subst h0
    obtain rfl : xs = [] := List.eq_nil_of_length_eq_zero hl
    cases A with
    | none => rfl
    | some a => rfl
  · obtain ⟨b, o, rfl, hc⟩ := h.form h0
    have := run_loadBytes (P := P) w b xs o [] (fun j hj => hc j (by omega))
    rw [hl] at this
    exact this
theorem run_cmp {P : Program} {w : World} {A A' : Option Addr} {n n' : Nat} {xs ys : List UInt8} (h : RB w A n xs) (h' : RB w A' n' ys) (c c' : Nat) :
    (Extern.BytealgCompare.compare #[.slice A n c, .slice A' n' c']).run P w = .ok (.int .i64 (cmpB xs ys)) w := by
  change Sem.run P (do pure (goInt (Extern.BytealgCompare.cmp (← Extern.Bytes.bytesOf (.slice A n c)) (← Extern.Bytes.bytesOf (.slice A' n' c'))))) w = _
  simp only [Sem.run_bind, run_bytesOf h, run_bytesOf h', Sem.run_pure, Result.andThen]
  rw [Lib.cmp_eq]
  rfl
theorem below_drew {w W : World} (h : Below w.heap.size w W) : Below w.heap.size w W.drew := ⟨h.os, h.tape, h.output, h.size, h.block⟩
set_option maxHeartbeats 4000000 in
theorem compare_any (A : Option Addr) (n c : Nat) (xs : List UInt8) (A' : Option Addr) (n' c' : Nat) (ys : List UInt8) (w : World) (h : RB w A n xs) (h' : RB w A' n' ys) :
    Calls Tryd.prog 44 #[.slice A n c, .slice A' n' c'] w fun e w' => e = .returned (.int .i64 (cmpB xs ys)) ∧ w = w' := by
  have HC := run_callFunc_extern (P := Tryd.prog) Tryd.func60 (by kernel_rfl) (by kernel_rfl) (by kernel_rfl) (e := Extern.BytealgCompare.compare) (by kernel_rfl) #[.slice A n c, .slice A' n' c'] w
  rw [run_cmp h h' c c'] at HC
  simp only [Result.andThen] at HC
  have H := hid HC
  clear HC h h'
  go_enter Tryd.func44, Tryd.ntmps44
  go_wp2
  rw [H.out]
  rw [Oper.upon_value]
  go_wp2
  go_ret
  exact ⟨rfl, rfl⟩
set_option maxHeartbeats 4000000 in
theorem refcompare_any (A : Option Addr) (n c : Nat) (xs : List UInt8) (A' : Option Addr) (n' c' : Nat) (ys : List UInt8) (w : World) (h : RB w A n xs) (h' : RB w A' n' ys) :
    Calls Tryd.prog 61 #[.slice A n c, .slice A' n' c'] w fun e w' => e = .returned (.int .i64 (cmpB xs ys)) ∧ Below w.heap.size w w' := by
  have HL := hid (cmpB_less xs ys)
  have e1 := fun (u : World) (hb : Below w.heap.size w u) => (h.below hb).conv c
  have e2 := fun (u : World) (hb : Below w.heap.size w u) => (h'.below hb).conv c'
  have q1 := h.conv c
  have q2 := h'.conv c'
  have q3 := h.drew.conv c
  have q4 := h'.drew.conv c'
  have b1 : (bstr xs).toList = xs := ByteArray.toList_mk xs
  have b2 : (bstr ys).toList = ys := ByteArray.toList_mk ys
  clear h h'
  by_cases h1 : Op.bytesLess xs ys = true
  · have g1 : Op.bytesLess (bstr xs).toList (bstr ys).toList = true := by rw [b1, b2]; exact h1
    have HR : Hid (cmpB xs ys = -1) := by unfold Hid; rw [HL.out, if_pos h1]
    clear HL h1 b1 b2
    go_enter Tryd.func61, Tryd.ntmps61
    go_wp2
    go_region
    go_wp2
    go_ret
    exact ⟨by rw [HR.out]; rfl, below_drew (Below.refl _ _)⟩
  · have g1 : Op.bytesLess (bstr xs).toList (bstr ys).toList = false := by rw [b1, b2]; simpa using h1
    by_cases h2 : Op.bytesLess ys xs = true
    · have HR : Hid (cmpB xs ys = 1) := by unfold Hid; rw [HL.out, if_neg h1, if_pos h2]
      have g2 : ∀ u, (binOp .gtr 9 (.string (bstr xs)) (.string (bstr ys))).run Tryd.prog u = .ok (.bool true) u := fun u => by rw [run_gtr, HR.out]; rfl
      clear HL h1 h2 b1 b2
      go_enter Tryd.func61, Tryd.ntmps61
      go_wp2
      go_region
      go_wp2
      go_ret
      exact ⟨by rw [HR.out]; rfl, below_drew (Below.refl _ _)⟩
    · have HR : Hid (cmpB xs ys = 0) := by unfold Hid; rw [HL.out, if_neg h1, if_neg h2]
      have g2 : ∀ u, (binOp .gtr 9 (.string (bstr xs)) (.string (bstr ys))).run Tryd.prog u = .ok (.bool false) u := fun u => by rw [run_gtr, HR.out]; rfl
      clear HL h1 h2 b1 b2
      go_enter Tryd.func61, Tryd.ntmps61
      go_wp2
      go_region
      go_wp2
      go_ret
      exact ⟨by rw [HR.out]; rfl, below_drew (Below.refl _ _)⟩
end Go.Proofs.YtkkclkknpjapcaaDoor
/-! ### OV -/
namespace Go.Proofs.YtkkclkknpjapcaaDoor
open Go.RowKit
set_option linter.unusedVariables false
set_option linter.unusedSimpArgs false

theorem flat_get {α : Type} {size : Nat} : ∀ (V : List (List α)), (∀ x ∈ V, x.length = size) → ∀ j i, i < size → V.flatten[j * size + i]? = (V[j]?).bind (·[i]?) := by
  intro V
  induction V with
  | nil => intro _ j i _; simp
  | cons x V ih =>
    intro h j i hi
    have hx : x.length = size := h x (by simp)
    cases j with
    | zero =>
      rw [List.flatten_cons, Nat.zero_mul, Nat.zero_add, List.getElem?_append_left (by omega)]
      rfl
    | succ j =>
      rw [List.flatten_cons, List.getElem?_append_right (by rw [hx, Nat.succ_mul]; omega), hx, show (j + 1) * size + i - size = j * size + i by rw [Nat.succ_mul]; omega, ih (fun y hy => h y (by simp [hy])) j i hi]
      rfl
theorem flat_len {α : Type} {size : Nat} : ∀ (V : List (List α)), (∀ x ∈ V, x.length = size) → V.flatten.length = V.length * size := by
  intro V
  induction V with
  | nil => intro _; simp
  | cons x V ih =>
    intro h
    rw [List.flatten_cons, List.length_append, ih (fun y hy => h y (by simp [hy])), h x (by simp), List.length_cons, Nat.succ_mul]
    omega
/-- A row of records of one's own. -/
def OV (w : World) (base : Nat) (e : TypeId) (size : Nat) (v : Value) (V : List (List Value)) : Prop :=
  w.ownsRow base e size v V.length V.flatten ∧ ∀ x ∈ V, x.length = size
section
variable {w w' : World} {base size : Nat} {e : TypeId} {v : Value} {V : List (List Value)}
theorem OV.nil (w : World) (base : Nat) (e : TypeId) (size : Nat) : OV w base e size (.slice none 0 0) [] := ⟨World.ownsRow_nil _ _ _ _, fun x h => by cases h⟩
theorem OV.below (h : OV w base e size v V) (hb : Below w.heap.size w w') : OV w' base e size v V := ⟨own_below h.1 hb, h.2⟩
theorem OV.base_ (h : OV w base e size v V) (k : Nat) (hk : v.ownBlock = some k) : base ≤ k := own_base h.1 k hk
theorem OV.other {row : Option Nat} (h : OV w base e size v V) (hg : w.grownBy w' row) (hne : v.ownBlock = none ∨ v.ownBlock ≠ row) : OV w' base e size v V := ⟨World.ownsRow.kept h.1 hg hne, h.2⟩
theorem OV.open_ (h : OV w base e size v V) : ∃ A c, v = .slice A V.length c ∧ V.length ≤ c := by
  obtain ⟨A, c, rfl⟩ := own_slice h.1
  exact ⟨A, c, rfl, own_cap h.1⟩
theorem OV.openN (h : OV w base e size v V) (n : Nat) (hn : V.length = n) : ∃ A c, v = .slice A n c ∧ n ≤ c := by
  subst hn
  exact h.open_
theorem OV.form (h : OV w base e size v V) (hn : 0 < V.length) : ∃ g c, v = .slice (some ⟨g, 0, none⟩) V.length c ∧ base ≤ g ∧ g < w.heap.size ∧ V.length ≤ c := by
  obtain ⟨g, c, rfl, h1, h2⟩ := World.ownsRow.form h.1 hn
  exact ⟨g, c, rfl, h1, h2, own_cap h.1⟩
theorem OV.cell {g c : Nat} (h : OV w base e size (.slice (some ⟨g, 0, none⟩) V.length c) V) {j i : Nat} (hj : j < V.length) (hi : i < size) : w.cell? ⟨g, j * size + i, none⟩ = (elt [] V j)[i]? := by
  have hlt : j * size + i < V.length * size := by
    have : (j + 1) * size ≤ V.length * size := Nat.mul_le_mul_right _ hj
    rw [Nat.succ_mul] at this
    omega
  rw [World.ownsRow.cellAt h.1 _ hlt, flat_get V h.2 j i hi, elt_get [] hj]
  simp [hj]
theorem OV.blk {g n c : Nat} (h : OV w base e size (.slice (some ⟨g, 0, none⟩) n c) V) : ∃ cur, w.heap[g]? = some (.cells cur e (0, 0)) := by
  rcases h.1.2 with ⟨h', _⟩ | ⟨g', cap', cur, h', _, hg, _⟩
  · simp at h'
  · simp only [Value.slice.injEq, Option.some.injEq, Addr.mk.injEq, and_true, true_and] at h'
    obtain ⟨rfl, _⟩ := h'
    exact ⟨cur, hg⟩
/-- A row of records lies in no block of another type. -/
theorem OV.ne_blk {b : Nat} {cs : Array Value} {e' : TypeId} {fr : Nat × Nat} (h : OV w base e size v V) (hb : w.heap[b]? = some (.cells cs e' fr)) (he : e' ≠ e) : v.ownBlock ≠ some b := by
  rcases h.1.2 with ⟨rfl, _⟩ | ⟨g, cap, cur, rfl, _, hh, _⟩
  · intro e; cases e
  · intro e1
    have e2 : g = b := Option.some.inj e1
    rw [e2, hb] at hh
    injection hh with hh
    injection hh with _ hh _
    exact he hh
theorem OB.ne_blk {xs : List UInt8} {b : Nat} {cs : Array Value} {e' : TypeId} {fr : Nat × Nat} (h : OB w base v xs) (hb : w.heap[b]? = some (.cells cs e' fr)) (he : e' ≠ 5) : v.ownBlock ≠ some b := by
  rcases h.2 with ⟨rfl, _⟩ | ⟨g, cap, cur, rfl, _, hh, _⟩
  · intro e; cases e
  · intro e1
    have e2 : g = b := Option.some.inj e1
    rw [e2, hb] at hh
    injection hh with hh
    injection hh with _ hh _
    exact he hh
/-- Bytes of one's own are apart from a row of records. -/
theorem OB.apart_row {base' : Nat} {u : Value} {xs : List UInt8} (h : OB w base' u xs) (h2 : OV w base e size v V) (he : e ≠ 5) : u.ownBlock = none ∨ u.ownBlock ≠ v.ownBlock := by
  rcases h2.1.2 with ⟨rfl, _⟩ | ⟨g, cap, cur, rfl, _, hh, _⟩
  · cases hu : u.ownBlock with
    | none => exact .inl rfl
    | some k => exact .inr (fun e => by cases e)
  · exact .inr (OB.ne_blk h hh he)
theorem blk_grown' {row : Option Nat} {b : Nat} {o : Obj} (hg : w.grownBy w' row) (h : w.heap[b]? = some o) (hne : row ≠ some b) : w'.heap[b]? = some o := by
  have hlt : b < w.heap.size := by
    rcases Nat.lt_or_ge b w.heap.size with h1 | h1
    · exact h1
    · rw [Array.getElem?_eq_none h1] at h; cases h
  rw [hg.block b hlt (Ne.symm hne)]; exact h
theorem grown_set (w : World) (b i : Nat) (v : Value) : w.grownBy (w.setCell ⟨b, i, none⟩ v) (some b) :=
  ⟨rfl, rfl, rfl, by simp, fun k _ hne => heap_setCell_other w _ k v (fun e => hne (congrArg some e))⟩
end
/-- What a row's records tell, record by record. -/
def RelV {α : Type} (d : α) (P : List Value → α → Prop) (V : List (List Value)) (xs : List α) : Prop := V.length = xs.length ∧ ∀ j, j < V.length → P (elt [] V j) (elt d xs j)
theorem elt_left' {α : Type} (d : α) (a b : List α) {j : Nat} (hj : j < a.length) : elt d (a ++ b) j = elt d a j := by
  unfold elt
  simp [List.getElem?_append, hj]
theorem elt_right' {α : Type} (d : α) (a b : List α) {j : Nat} (hj : a.length ≤ j) : elt d (a ++ b) j = elt d b (j - a.length) := by
  unfold elt
  rw [List.getD_eq_getElem?_getD, List.getD_eq_getElem?_getD, List.getElem?_append_right hj]
section
variable {α : Type} {d : α} {P Q : List Value → α → Prop} {V : List (List Value)} {xs : List α}
theorem RelV.nil : RelV d P [] [] := ⟨rfl, fun j h => absurd h (by simp)⟩
theorem RelV.mono (h : RelV d P V xs) (hPQ : ∀ x a, P x a → Q x a) : RelV d Q V xs := ⟨h.1, fun j hj => hPQ _ _ (h.2 j hj)⟩
theorem RelV.snoc {x : List Value} {a : α} (h : RelV d P V xs) (hx : P x a) : RelV d P (V ++ [x]) (xs ++ [a]) := by
  refine ⟨by simp [h.1], fun j hj => ?_⟩
  rw [List.length_append] at hj
  by_cases hjv : j < V.length
  · rw [elt_left' _ _ _ hjv, elt_left' _ _ _ (by rw [← h.1]; exact hjv)]
    exact h.2 j hjv
  · rw [elt_right' _ _ _ (by omega), elt_right' _ _ _ (by rw [← h.1]; omega), ← h.1]
    have : j - V.length = 0 := by simp at hj; omega
    rw [this]
    exact hx
end
/-- append of one record, a literal, onto a row of one's own. -/
theorem wpV_append1 {ops : Array Oper} {rest : List Oper} {o : Oper} {a : Act} {Q : Exit → Act → World → Prop} (t e : TypeId) (z : Value) (size bytes : Nat) (ht : Tryd.prog.underlying t = some (.slice e))
    (hinfo : (Tryd.prog.info? e).map (fun i => (i.zero, i.size, i.bytes)) = some (some z, size, bytes)) (hzs : z.cells.size = size) (hsz : 0 < size) (w0 w : World) (base : Nat) (hgd : o.guard = none) (s x : Operand)
    (ho : o.op = .call { callee := .builtin .append, args := #[s, x], argTypes := #[t, t] })
    (v : Value) (V : List (List Value)) (hs : a.eval s = v) (hown : OV w base e size v V) (cs : Array Value) (hcs : cs.size = size) (hu : ∀ u ∈ cs.toList, u.oneCell' = true) (c2 g : Nat) (hg : g = w.heap.size) (hx : a.eval x = .slice (some ⟨g, 0, none⟩) 1 c2)
    (hmax : V.length + 1 ≤ maxLen) (hbytes : (V.length + 1) * bytes ≤ 140737488355328) (hB : Below base w0 w) (hbase : base ≤ w.heap.size)
    (h : ∀ v' w', OV w' base e size v' (V ++ [cs.toList]) → Below base w0 w' → w.grownBy w' v.ownBlock → AtRow w.heap.size v v' → wpList Tryd.prog ops Q rest (a.put o.dst v') w') : wpList Tryd.prog ops Q (o :: rest) a (w.alloc (.cells cs e)) := by
  subst hg
  have hB1 : Below base w0 (w.alloc (.cells cs e)) := hB.alloc hbase _
  refine wpList_append_any _ hgd s x _ ho base e z size bytes ht hinfo hzs hsz v V.length V.flatten hs (World.ownsRow.alloc hown.1 _) _ 1 c2 cs.toList hx (Reads.block (heap_alloc_new w _) (by rw [hcs, Nat.one_mul])) hu hmax hbytes (by simp; omega) ?_
  intro v' w' h2 h3 h4
  refine h v' w' ⟨?_, ?_⟩ (hB1.grown h3 (by simp; omega) (own_base hown.1)) (grown_step (v0 := v) (World.grownBy_alloc w _ _) (AtRow.refl _ v) h3) ?_
  · rw [List.length_append, List.flatten_append]
    simpa using h2
  · intro y hy
    rcases List.mem_append.1 hy with hy | hy
    · exact hown.2 y hy
    · rw [List.mem_singleton] at hy
      subst hy
      simpa using hcs
  · rcases h4 with h4 | h4
    · exact .inl h4
    · exact .inr ⟨_, h4, by simp⟩
end Go.Proofs.YtkkclkknpjapcaaDoor
