/- Layer 11: what the document's Block holds: two rows of bytes of its own. -/
import Derived.Test.YteediedhofapkaaBkI
import Derived.Test.YteediedhofapkaaR3
namespace Go.Proofs.Yteediedhofapkaa
open Go.RowKit
set_option linter.unusedVariables false
set_option linter.unusedSimpArgs false

/-- Two rows that lie apart. -/
def Apt (v u : Value) : Prop := ∀ k, v.ownBlock = some k → u.ownBlock ≠ some k
theorem Apt.symm {v u : Value} (h : Apt v u) : Apt u v := fun k h1 h2 => h k h2 h1
theorem Apt.or {v u : Value} (h : Apt v u) : u.ownBlock = none ∨ u.ownBlock ≠ v.ownBlock := by
  cases hv : v.ownBlock with
  | none =>
    cases hu : u.ownBlock with
    | none => exact .inl rfl
    | some k => exact .inr (by intro e; cases e)
  | some k => exact .inr (h k hv)
theorem OB.lt {w : World} {base : Nat} {v : Value} {xs : List UInt8} (h : OB w base v xs) (k : Nat) (hk : v.ownBlock = some k) : k < w.heap.size := (World.ownsRow.lt h k hk).2
/-- One of the two has grown. -/
theorem Apt.step {w : World} {base : Nat} {v v' u : Value} {T : List UInt8} (h : Apt v u) (hu : OB w base u T) (hp : ∀ k, v'.ownBlock = some k → some k = v.ownBlock ∨ w.heap.size ≤ k) : Apt v' u := by
  intro k hk e
  rcases hp k hk with h1 | h1
  · exact h k h1.symm e
  · have := hu.lt k e
    omega
theorem AtRow.place {B : Nat} {v v' : Value} (h : AtRow B v v') : ∀ k, v'.ownBlock = some k → some k = v.ownBlock ∨ B ≤ k := by
  intro k hk
  rcases h with h | ⟨q, h, h1⟩
  · exact .inl (by rw [← h, hk])
  · rw [h] at hk
    have := Option.some.inj hk
    exact .inr (by omega)
/-- What the document's Block holds. -/
def RfJ (w wr : World) (v : Value) (L : List UInt8) (u : Value) (T : List UInt8) : Prop := OB wr w.heap.size v L ∧ OB wr w.heap.size u T ∧ Apt v u ∧ Below w.heap.size w wr
section
variable {w wr w' : World} {v v' u u' : Value} {L L' T T' : List UInt8}
theorem RfJ.below (h : RfJ w wr v L u T) (hb : Below wr.heap.size wr w') : RfJ w w' v L u T := ⟨h.1.below hb, h.2.1.below hb, h.2.2.1, below_then h.2.2.2 hb⟩
theorem RfJ.size (h : RfJ w wr v L u T) : w.heap.size ≤ wr.heap.size := h.2.2.2.size
theorem RfJ.step (h : RfJ w wr v L u T) (hg : wr.grownBy w' v.ownBlock) (h' : OB w' w.heap.size v' L') (hp : ∀ k, v'.ownBlock = some k → some k = v.ownBlock ∨ wr.heap.size ≤ k) : RfJ w w' v' L' u T :=
  ⟨h', h.2.1.other hg h.2.2.1.or, h.2.2.1.step h.2.1 hp, h.2.2.2.grown hg h.2.2.2.size (OB.base_ h.1)⟩
theorem RfJ.stepU (h : RfJ w wr v L u T) (hg : wr.grownBy w' u.ownBlock) (h' : OB w' w.heap.size u' T') (hp : ∀ k, u'.ownBlock = some k → some k = u.ownBlock ∨ wr.heap.size ≤ k) : RfJ w w' v L u' T' :=
  ⟨h.1.other hg h.2.2.1.symm.or, h', (h.2.2.1.symm.step h.1 hp).symm, h.2.2.2.grown hg h.2.2.2.size (OB.base_ h.2.1)⟩
end
end Go.Proofs.Yteediedhofapkaa
