/- Shared texts, part S16: RF2. -/
import Derived.Test.YtkkclkknpjapcaaDoorS15
/-! ### RF2 -/
namespace Go.Proofs.YtkkclkknpjapcaaDoor
open Go.RowKit
set_option linter.unusedVariables false
set_option linter.unusedSimpArgs false

theorem Facts.stabB {B : Nat} {rows : List Nat} {vals : List Value} {bs : List (List UInt8)} :
    ∀ j v W W' rw, Facts B rows vals bs j v W → W.grownBy W' rw → (rows.contains j = true → v.ownBlock = none ∨ v.ownBlock ≠ rw) → Facts B rows vals bs j v W' := by
  intro j v W W' rw h hg hne
  unfold Facts at *
  cases hr : rows.contains j with
  | true => rw [hr] at h hne; exact OB.other h hg (hne rfl)
  | false => rw [hr] at h; exact h
theorem Facts.boundB {B : Nat} {rows : List Nat} {vals : List Value} {bs : List (List UInt8)} :
    ∀ j v W, rows.contains j = true → Facts B rows vals bs j v W → ∀ k, v.ownBlock = some k → B ≤ k ∧ k < W.heap.size := by
  intro j v W hr h k hk
  unfold Facts at h
  rw [hr] at h
  exact World.ownsRow.lt h k hk
theorem wp_region_txtB {P : Program} {ops : Array Oper} {Q : Exit → Act → World → Prop} {id : Nat} {T : List Value} {D : List Deferred} {w : World} (B r0 : Nat) (row0 : Option Nat) (s : List (Option Nat)) (rows : List Nat) (pars : List (Nat × Nat)) (vals : List Value) (bs : List (List UInt8))
    (hm : P.follows .mixedOrders = true) (hs : lay T s (was T s) = T)
    (hst : statOK ops (fun i => rows.contains i) (eatOf pars) (parOf pars) = true)
    (hrow0 : ∀ k, row0 = some k → k < w.heap.size)
    (hput : OpsOK (PutOK fun u => ⟨(lay T s u).toArray, D⟩) 0 ops.toList)
    (hops : OpsOK (OpOKB row0 r0 P ops Q (fun u => ⟨(lay T s u).toArray, D⟩) (Facts B rows vals bs) (fun i => rows.contains i) (eatOf pars) (parOf pars) w (was T s)) 0 ops.toList)
    (hend : ∀ u W, w.grownBy W row0 → (∀ i, i < ops.size → ops.size ≤ eatOf pars i → Facts B rows vals bs i (u i) W) → Q .normal ⟨(lay T s u).toArray, D⟩ W) :
    (Code.region id ops true).wp P Q ⟨T.toArray, D⟩ w :=
  wp_region_invB (B := B) (r0 := r0) (row0 := row0) (fun u => ⟨(lay T s u).toArray, D⟩) (was T s) _ _ _ _ ops.toList hm (by rw [hs]) rfl hst Facts.stabB Facts.boundB hput hrow0 hops hend
section
variable {P : Program} {ops : Array Oper} {Q : Exit → Act → World → Prop} {o : Oper} {a : Act} {w W : World} {K : Act → World → Prop} {u : Nat → Value} {rows : List Nat} {pars : List (Nat × Nat)} {vals : List Value} {bs : List (List UInt8)} {i B r0 : Nat} {row0 : Option Nat}
theorem hk_valB (hK : Hid (∀ v W', Facts B rows vals bs i v W' → ChangeB row0 r0 (fun i => rows.contains i) (parOf pars) i u W v W' → K (a.put o.dst v) W')) (hr : rows.contains i = false) (hp : parOf pars i = none) :
    Hid (∀ v W', v = nth vals i undef → Below W.heap.size W W' → K (a.put o.dst v) W') := fun v W' h1 h2 =>
  hK v W' (by unfold Facts; rw [hr]; exact h1) (by unfold ChangeB; rw [hp]; exact ⟨h2, fun h => by rw [show (fun i => rows.contains i) i = rows.contains i from rfl, hr] at h; cases h⟩)
theorem hk_rowB (hBW : B ≤ W.heap.size) (hK : Hid (∀ v W', Facts B rows vals bs i v W' → ChangeB row0 r0 (fun i => rows.contains i) (parOf pars) i u W v W' → K (a.put o.dst v) W')) (hi : i ≠ r0) (hr : rows.contains i = true) (hp : parOf pars i = none) :
    Hid (∀ v W', OB W' W.heap.size v (nth bs i []) → Below W.heap.size W W' → K (a.put o.dst v) W') := fun v W' h1 h2 =>
  hK v W' (by unfold Facts; rw [hr]; exact OB.mono h1 hBW) (by unfold ChangeB; rw [hp]; exact ⟨h2, fun _ k hk => by rw [if_neg hi]; exact OB.base_ h1 k hk⟩)
theorem hk_oldB (hK : Hid (∀ v W', Facts B rows vals bs i v W' → ChangeB row0 r0 (fun i => rows.contains i) (parOf pars) i u W v W' → K (a.put o.dst v) W')) (hi : i = r0) (hr : rows.contains i = true) (hp : parOf pars i = none) :
    Hid (∀ v, OB W B v (nth bs i []) → (∀ k, v.ownBlock = some k → some k = row0) → K (a.put o.dst v) W) := fun v h1 h2 =>
  hK v W (by unfold Facts; rw [hr]; exact h1) (by unfold ChangeB; rw [hp]; exact ⟨Below.refl _ _, fun _ k hk => by rw [if_pos hi]; exact h2 k hk⟩)
theorem hk_parB (hK : Hid (∀ v W', Facts B rows vals bs i v W' → ChangeB row0 r0 (fun i => rows.contains i) (parOf pars) i u W v W' → K (a.put o.dst v) W')) (hr : rows.contains i = true) (p : Nat) (hp : parOf pars i = some p) :
    Hid (∀ v W', OB W' B v (nth bs i []) → W.grownBy W' (u p).ownBlock → AtRow W.heap.size (u p) v → K (a.put o.dst v) W') := fun v W' h1 h2 h3 =>
  hK v W' (by unfold Facts; rw [hr]; exact h1) (by unfold ChangeB; rw [hp]; exact ⟨h2, h3⟩)
theorem fact_valB {v : Value} (h : Facts B rows vals bs i v W) (hr : rows.contains i = false) : v = nth vals i undef := by
  unfold Facts at h; rw [hr] at h; exact h
theorem fact_rowB {v : Value} (h : Facts B rows vals bs i v W) (hr : rows.contains i = true) : OB W B v (nth bs i []) := by
  unfold Facts at h; rw [hr] at h; exact h
end
end Go.Proofs.YtkkclkknpjapcaaDoor
