/- Rows of whole numbers of one's own. -/
import Derived.Test.YteediedhofapkaaB
namespace Go.Proofs.Yteediedhofapkaa
open Go.RowKit
set_option linter.unusedVariables false
set_option linter.unusedSimpArgs false

theorem intinfo : (Try.prog.info? 3).map (fun i => (i.zero, i.size, i.bytes)) = some (some (.int .i64 0), 1, 8) := by kernel_rfl
def ints (zs : List Int) : List Value := zs.map fun z => .int .i64 z
theorem ints_length (zs : List Int) : (ints zs).length = zs.length := by simp [ints]
theorem ints_append (a b : List Int) : ints (a ++ b) = ints a ++ ints b := by simp [ints]
theorem ints_one (zs : List Int) : ∀ u ∈ ints zs, u.oneCell' = true := by
  intro u hu
  simp only [ints, List.mem_map] at hu
  obtain ⟨z, _, rfl⟩ := hu
  rfl
theorem ints_get (zs : List Int) (j : Nat) (hj : j < zs.length) : (ints zs)[j]? = some (.int .i64 (elt 0 zs j)) := by
  simp [ints, elt, hj]
def OI (w : World) (base : Nat) (v : Value) (zs : List Int) : Prop := w.ownsRow base 3 1 v zs.length (ints zs)
section
variable {w w' : World} {base : Nat} {v : Value} {zs : List Int}
theorem OI.nil (w : World) (base : Nat) : OI w base (.slice none 0 0) [] := World.ownsRow_nil _ _ _ _
theorem OI.below (h : OI w base v zs) (hb : Below w.heap.size w w') : OI w' base v zs := own_below h hb
theorem OI.mono {base' : Nat} (h : OI w base v zs) (hb : base' ≤ base) : OI w base' v zs := own_mono h hb
theorem OI.base_ (h : OI w base v zs) (k : Nat) (hk : v.ownBlock = some k) : base ≤ k := own_base h k hk
theorem OI.form (h : OI w base v zs) (n : Nat) (hl : zs.length = n) (hn : 0 < n) : ∃ g cap, v = .slice (some ⟨g, 0, none⟩) n cap ∧ base ≤ g ∧ g < w.heap.size ∧ n ≤ cap := by
  subst hl
  obtain ⟨g, cap, e, h1, h2⟩ := World.ownsRow.form h hn
  subst e
  exact ⟨g, cap, rfl, h1, h2, own_cap h⟩
theorem OI.slice (h : OI w base v zs) (n : Nat) (hl : zs.length = n) : ∃ A c, v = .slice A n c ∧ n ≤ c := by
  subst hl
  obtain ⟨A, c, rfl⟩ := own_slice h
  exact ⟨A, c, rfl, own_cap h⟩
theorem OI.cell {g n c : Nat} (h : OI w base (.slice (some ⟨g, 0, none⟩) n c) zs) (hl : zs.length = n) {j : Nat} (hj : j < n) : w.cell? ⟨g, j, none⟩ = some (.int .i64 (elt 0 zs j)) := by
  subst hl
  rw [World.ownsRow.cellAt h j (by omega), ints_get _ _ hj]
end
/-- append of one number. -/
theorem wpI_append1 {ops : Array Oper} {rest : List Oper} {o : Oper} {a : Act} {Q : Exit → Act → World → Prop} (w0 w : World) (base : Nat) (hgd : o.guard = none) (s x : Operand)
    (ho : o.op = .call { callee := .builtin .append, args := #[s, x], argTypes := #[44, 44] })
    (v : Value) (zs : List Int) (hs : a.eval s = v) (hown : OI w base v zs) (z : Int) (c g : Nat) (hg : g = w.heap.size) (hx : a.eval x = .slice (some ⟨g, 0, none⟩) 1 c)
    (hbytes : (zs.length + 1) * 8 ≤ 140737488355328) (hB : Below base w0 w) (hbase : base ≤ w.heap.size)
    (h : ∀ v' w', OI w' base v' (zs ++ [z]) → Below base w0 w' → wpList Try.prog ops Q rest (a.put o.dst v') w') : wpList Try.prog ops Q (o :: rest) a (w.alloc (.cells #[.int .i64 z] 3)) := by
  subst hg
  have hB1 : Below base w0 (w.alloc (.cells #[.int .i64 z] 3)) := hB.alloc hbase _
  have hr : Reads (w.alloc (.cells #[.int .i64 z] 3)) 1 (some ⟨w.heap.size, 0, none⟩) 1 (ints [z]) := Reads.block (heap_alloc_new w _) rfl
  refine wpList_append_any _ hgd s x _ ho base 3 (.int .i64 0) 1 8 Try.underlying44 intinfo rfl (by omega) v zs.length (ints zs) hs (World.ownsRow.alloc hown _) _ 1 c (ints [z]) hx hr (ints_one _) (by simp only [maxLen]; omega) hbytes (by simp; omega) ?_
  intro v' w' h1 h2 h3
  refine h v' w' ?_ (hB1.grown h2 (by simp; omega) (own_base hown))
  show w'.ownsRow _ _ _ _ _ _
  rw [List.length_append, ints_append]
  exact h1
end Go.Proofs.Yteediedhofapkaa
