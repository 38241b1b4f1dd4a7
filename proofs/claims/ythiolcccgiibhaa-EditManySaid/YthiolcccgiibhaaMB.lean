/- A map of numbers to true, made by the call: which numbers are in it. -/
import Derived.Test.YthiolcccgiibhaaOV
import Derived.Maps.Own
import Derived.Maps.Views
namespace Go.Proofs.Ythiolcccgiibhaa
open Go.RowKit
set_option linter.unusedVariables false
set_option linter.unusedSimpArgs false

theorem i64key : Maps.Keyed Try.prog 2 := Maps.int_keyed Try.underlying2
/-- Block b is a map with the numbers S. -/
def MB (w : World) (b : Nat) (S : List Int) : Prop :=
  ∃ (D : DataW Unit) (n : Nat), n ≤ S.length ∧ w.ownsMap Try.prog 2 (plainElem Try.prog 4) b n D ∧ Maps.IsMap D ∧ ∀ z, D.atKey (.int .i64 z) (.lit (.bool false)) = .lit (.bool (decide (z ∈ S)))
theorem MB.made (w : World) : MB (w.alloc (.map #[] 0)) w.heap.size [] :=
  ⟨.map [], 0, by simp, World.ownsMap_made w _ _ _, ⟨[], rfl⟩, fun z => by simp [DataW.atKey]⟩
theorem MB.kept {w w' : World} {b : Nat} {S : List Int} {row : Option Nat} (h : MB w b S) (hg : w.grownBy w' row) (hne : some b ≠ row) : MB w' b S := by
  obtain ⟨D, n, h1, h2, h3, h4⟩ := h
  exact ⟨D, n, h1, h2.kept hg hne, h3, h4⟩
theorem MB.below {w w' : World} {b : Nat} {S : List Int} (h : MB w b S) (hb : Below w.heap.size w w') : MB w' b S := h.kept (below_grown hb none) (by simp)
theorem MB.lt {w : World} {b : Nat} {S : List Int} (h : MB w b S) : b < w.heap.size := by
  obtain ⟨D, n, h1, h2, h3, h4⟩ := h
  exact h2.lt
theorem plainElem_bool_inv {H : Type} {P : Program} {e : TypeId} (he : P.underlying e = some .bool) {v : Value} {z : DataW H × List MemPlace} (h : plainElem P e v = some z) : ∃ x, v = .bool x ∧ z = (.lit (.bool x), []) := by
  unfold plainElem at h
  rw [he] at h
  cases v <;> simp at h
  subst h
  exact ⟨_, rfl, rfl⟩
theorem zeroBool (w : World) : (zeroValue 4).run Try.prog w = .ok (.bool false) w := by
  kernel_rfl
theorem MB.look {w : World} {b : Nat} {S : List Int} (h : MB w b S) {z : Int} (hz : (Lit.int .i64 z).wf = true) :
    (Instr.lookup 47 (.map (some b)) (.int .i64 z) false).run Try.prog w = .ok (.bool (decide (z ∈ S))) w := by
  obtain ⟨D, n, h1, h2, h3, h4⟩ := h
  obtain ⟨v, ps, hrun, hv⟩ := h2.lookup i64key Try.underlying47 (zeroBool w) (plainElem_bool Try.underlying4 false) (Maps.keyOf_int_mk Try.underlying2 hz)
  obtain ⟨x, rfl, hx⟩ := plainElem_bool_inv Try.underlying4 hv
  rw [h4] at hx
  simp only [Prod.mk.injEq, DataW.lit.injEq, Lit.bool.injEq] at hx
  rw [hrun, hx.1]
theorem wpMB_store {ops : Array Oper} {rest : List Oper} {o : Oper} {a : Act} {Q : Exit → Act → World → Prop} (w : World) (hg : o.guard = none) (m x v : Operand) (hop : o.op = Op.mapUpdate 47 m x v)
    (b : Nat) (S : List Int) (hm : a.eval m = .map (some b)) (h : MB w b S) (hS : S.length < maxLen) (z : Int) (hx : a.eval x = .int .i64 z) (hv : a.eval v = .bool true) (hz : (Lit.int .i64 z).wf = true)
    (hK : ∀ w', MB w' b (S ++ [z]) → w.grownBy w' (some b) → wpList Try.prog ops Q rest (a.put o.dst undef) w') : wpList Try.prog ops Q (o :: rest) a w := by
  obtain ⟨D, n, h1, h2, h3, h4⟩ := h
  refine wpList_mapUpdate_own w hg m x v 47 hop 2 4 i64key Try.underlying47 (plainElem Try.prog 4) b n D hm h2 (by omega) (.int .i64 z) (.bool true) (.int .i64 z) hx hv (Maps.keyOf_int_mk Try.underlying2 hz) (.lit (.bool true)) [] (plainElem_bool Try.underlying4 true) ?_
  intro w' g1 g2
  refine hK w' ⟨_, n + 1, by simp; omega, g1, h3.put _ _, fun y => ?_⟩ g2
  by_cases e : y = z
  · subst e
    rw [Maps.atKey_put_same h3 (k := .int .i64 y) trivial]
    simp
  · rw [Maps.atKey_put_other (by simpa using e), h4]
    congr 2
    simp [e]
end Go.Proofs.Ythiolcccgiibhaa
