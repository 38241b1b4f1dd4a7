/- Rows of one's own that hold rows of bytes of one's own. -/
import Derived.Test.YtkcdjmipmpeedaaOS
namespace Go.Proofs.Ytkcdjmipmpeedaa
open Go.RowKit
set_option linter.unusedVariables false
set_option linter.unusedSimpArgs false

theorem OB.blk' {w : World} {base : Nat} {v : Value} {xs : List UInt8} (h : OB w base v xs) : v.ownBlock = none ∨ ∃ g cur, v.ownBlock = some g ∧ w.heap[g]? = some (.cells cur 5 (0, 0)) := by
  rcases h.2 with ⟨rfl, _⟩ | ⟨g, cap, cur, rfl, _, hg, _⟩
  · exact .inl rfl
  · exact .inr ⟨g, cur, rfl, hg⟩
theorem OS.blk' {w : World} {base : Nat} {v : Value} {V : List Value} (h : OS w base v V) : v.ownBlock = none ∨ ∃ g cur, v.ownBlock = some g ∧ w.heap[g]? = some (.cells cur 22 (0, 0)) := by
  rcases h.2 with ⟨rfl, _⟩ | ⟨g, cap, cur, rfl, _, hg, _⟩
  · exact .inl rfl
  · exact .inr ⟨g, cur, rfl, hg⟩
theorem own_types_ne {w : World} {base base' : Nat} {v v2 : Value} {xs : List UInt8} {V : List Value} (h : OB w base v xs) (h2 : OS w base' v2 V) : v.ownBlock = none ∨ v.ownBlock ≠ v2.ownBlock := by
  rcases h.blk' with e | ⟨g, cur, e, hg⟩
  · exact .inl e
  · right
    rw [e]
    intro hx
    rcases h2.blk' with e2 | ⟨g2, cur2, e2, hg2⟩
    · rw [e2] at hx; cases hx
    · rw [e2] at hx
      injection hx with hx
      subst hx
      rw [hg] at hg2
      injection hg2 with h3
      injection h3 with _ h4
      exact absurd h4 (by decide)
def OBs (w : World) (base : Nat) (V : List Value) (recs : List (List UInt8)) : Prop := V.length = recs.length ∧ ∀ j, j < V.length → OB w base (elt undef V j) (elt [] recs j)
section
variable {w w' : World} {base : Nat} {V : List Value} {recs : List (List UInt8)}
theorem OBs.nil (w : World) (base : Nat) : OBs w base [] [] := ⟨rfl, fun j h => absurd h (by simp)⟩
theorem OBs.below (h : OBs w base V recs) (hb : Below w.heap.size w w') : OBs w' base V recs := ⟨h.1, fun j hj => (h.2 j hj).below hb⟩
theorem OBs.other {base' : Nat} {v2 : Value} {V2 : List Value} (h : OBs w base V recs) (h2 : OS w base' v2 V2) (hg : w.grownBy w' v2.ownBlock) : OBs w' base V recs :=
  ⟨h.1, fun j hj => (h.2 j hj).other hg (own_types_ne (h.2 j hj) h2)⟩
theorem OBs.snoc {v : Value} {r : List UInt8} (h : OBs w base V recs) (hv : OB w base v r) : OBs w base (V ++ [v]) (recs ++ [r]) := by
  refine ⟨by simp [h.1], fun j hj => ?_⟩
  rw [List.length_append] at hj
  by_cases hjv : j < V.length
  · rw [elt_left _ _ _ hjv, elt_left _ _ _ (by rw [← h.1]; exact hjv)]
    exact h.2 j hjv
  · rw [elt_right _ _ _ (by omega), elt_right _ _ _ (by rw [← h.1]; omega), ← h.1]
    have : j - V.length = 0 := by simp at hj; omega
    rw [this]
    exact hv
theorem OBs.rbw (h : OBs w base V recs) : RBW w V recs := ⟨h.1, fun j hj => by
  obtain ⟨A, c, e, hr, hc⟩ := (h.2 j hj).open_
  exact ⟨A, _, c, e, hr, hc⟩⟩
end
/-- append of one slice of bytes, with what it leaves alone. -/
theorem wpS_append1g {ops : Array Oper} {rest : List Oper} {o : Oper} {a : Act} {Q : Exit → Act → World → Prop} (w0 w : World) (base : Nat) (hgd : o.guard = none) (s x : Operand)
    (ho : o.op = .call { callee := .builtin .append, args := #[s, x], argTypes := #[30, 30] })
    (v : Value) (V : List Value) (hs : a.eval s = v) (hown : OS w base v V) (u : Value) (hu : u.oneCell' = true) (c2 g : Nat) (hg : g = w.heap.size) (hx : a.eval x = .slice (some ⟨g, 0, none⟩) 1 c2)
    (hbytes : (V.length + 1) * 24 ≤ 140737488355328) (hB : Below base w0 w) (hbase : base ≤ w.heap.size)
    (h : ∀ v' w', OS w' base v' (V ++ [u]) → Below base w0 w' → w.grownBy w' v.ownBlock → wpList Try.prog ops Q rest (a.put o.dst v') w') : wpList Try.prog ops Q (o :: rest) a (w.alloc (.cells #[u] 22)) := by
  subst hg
  have hB1 : Below base w0 (w.alloc (.cells #[u] 22)) := hB.alloc hbase _
  refine wpList_append_any _ hgd s x _ ho base 22 (.slice none 0 0) 1 24 Try.underlying30 bsinfo rfl (by omega) v V.length V hs (World.ownsRow.alloc hown _) _ 1 c2 [u] hx (Reads.block (heap_alloc_new w _) rfl) (fun y hy => by simp at hy; subst hy; exact hu) (by simp only [maxLen]; omega) hbytes (by simp; omega) ?_
  intro v' w' h2 h3 h4
  refine h v' w' ?_ (hB1.grown h3 (by simp; omega) (own_base hown)) (grown_step (v0 := v) (World.grownBy_alloc w _ _) (AtRow.refl _ v) h3)
  show w'.ownsRow _ _ _ _ _ _
  rw [List.length_append]
  exact h2
end Go.Proofs.Ytkcdjmipmpeedaa
