/- wp_region_inv for regions whose operations leave values or rows of bytes of their own: the forms that the printed lines (wip/inv.py) use. -/
import Derived.Test.YteediedhofapkaaR
namespace Go.Proofs.Yteediedhofapkaa
open Go.RowKit
set_option linter.unusedVariables false
set_option linter.unusedSimpArgs false

def nth {α : Type} : List α → Nat → α → α
  | [], _, d => d
  | x :: _, 0, _ => x
  | _ :: l, n + 1, d => nth l n d
def Facts (base : Nat) (rows : List Nat) (vals : List Value) (bs : List (List UInt8)) (i : Nat) (v : Value) (W : World) : Prop :=
  match rows.contains i with
  | true => OB W base v (nth bs i [])
  | false => v = nth vals i undef
def eatOf (pars : List (Nat × Nat)) (p : Nat) : Nat := match pars.find? (·.1 == p) with
  | some x => x.2
  | none => 1000000
def parOf (pars : List (Nat × Nat)) (i : Nat) : Option Nat := (pars.find? (·.2 == i)).map (·.1)

theorem Facts.stab {base : Nat} {rows : List Nat} {vals : List Value} {bs : List (List UInt8)} {w : World} (hb : base = w.heap.size) :
    ∀ j v W W' rw, Facts base rows vals bs j v W → W.grownBy W' rw → (rows.contains j = true → v.ownBlock = none ∨ v.ownBlock ≠ rw) → (∀ k, rw = some k → w.heap.size ≤ k) → Below w.heap.size w W → Facts base rows vals bs j v W' := by
  intro j v W W' rw h hg hne _ _
  unfold Facts at *
  cases hr : rows.contains j with
  | true => rw [hr] at h hne; exact OB.other h hg (hne rfl)
  | false => rw [hr] at h; exact h
theorem Facts.bound {base : Nat} {rows : List Nat} {vals : List Value} {bs : List (List UInt8)} {w : World} (hb : base = w.heap.size) :
    ∀ j v W, rows.contains j = true → Facts base rows vals bs j v W → ∀ k, v.ownBlock = some k → w.heap.size ≤ k ∧ k < W.heap.size := by
  intro j v W hr h k hk
  unfold Facts at h
  rw [hr] at h
  subst hb
  exact World.ownsRow.lt h k hk

theorem wp_region_facts {P : Program} {ops : Array Oper} {Q : Exit → Act → World → Prop} {id : Nat} {a : Act} {w : World} (mk : (Nat → Value) → Act) (u0 : Nat → Value) (rows : List Nat) (pars : List (Nat × Nat)) (vals : List Value) (bs : List (List UInt8)) (L : List Oper)
    (hm : P.follows .mixedOrders = true) (ha : a = mk u0) (hL : ops.toList = L)
    (hst : statOK ops (fun i => rows.contains i) (eatOf pars) (parOf pars) = true)
    (hput : OpsOK (PutOK mk) 0 L)
    (hops : OpsOK (OpOK P ops Q mk (Facts w.heap.size rows vals bs) (fun i => rows.contains i) (eatOf pars) (parOf pars) w) 0 L)
    (hend : ∀ u W, Below w.heap.size w W → (∀ i, i < ops.size → ops.size ≤ eatOf pars i → Facts w.heap.size rows vals bs i (u i) W) → Q .normal (mk u) W) :
    (Code.region id ops true).wp P Q a w :=
  wp_region_inv mk u0 _ _ _ _ L hm ha hL hst (Facts.stab rfl) (Facts.bound rfl) hput hops hend

theorem dep_of {ops : Array Oper} {o : Oper} {T : Nat → Value → World → Prop} {eat : Nat → Nat} {u : Nat → Value} {W : World} {i : Nat}
    (hd : ∀ e ∈ o.after, Region.binds .any e = true → ops.size ≤ eat e.on ∨ eat e.on = i → T e.on (u e.on) W) (d : Nat)
    (h : (o.after.any fun e => Region.binds .any e && e.on == d) = true) (h2 : (decide (ops.size ≤ eat d) || eat d == i) = true) : T d (u d) W := by
  obtain ⟨e, he, hb⟩ := Array.any_eq_true'.1 h
  simp only [Bool.and_eq_true, beq_iff_eq] at hb
  obtain ⟨hb, rfl⟩ := hb
  exact hd e he hb (by simpa using h2)

/-- The slots of a frame, those that the region fills by letters. -/
def lay : List Value → List (Option Nat) → (Nat → Value) → List Value
  | [], _, _ => []
  | x :: l, [], u => x :: lay l [] u
  | x :: l, none :: s, u => x :: lay l s u
  | _ :: l, some i :: s, u => u i :: lay l s u
/-- What stood in the slots ahead of the region. -/
def was : List Value → List (Option Nat) → Nat → Value
  | [], _, _ => undef
  | _, [], _ => undef
  | _ :: l, none :: s, i => was l s i
  | x :: l, some k :: s, i => if k = i then x else was l s i

theorem wp_region_txt {P : Program} {ops : Array Oper} {Q : Exit → Act → World → Prop} {id : Nat} {T : List Value} {D : List Deferred} {w : World} (s : List (Option Nat)) (rows : List Nat) (pars : List (Nat × Nat)) (vals : List Value) (bs : List (List UInt8))
    (hm : P.follows .mixedOrders = true) (hs : lay T s (was T s) = T)
    (hst : statOK ops (fun i => rows.contains i) (eatOf pars) (parOf pars) = true)
    (hput : OpsOK (PutOK fun u => ⟨(lay T s u).toArray, D⟩) 0 ops.toList)
    (hops : OpsOK (OpOK P ops Q (fun u => ⟨(lay T s u).toArray, D⟩) (Facts w.heap.size rows vals bs) (fun i => rows.contains i) (eatOf pars) (parOf pars) w) 0 ops.toList)
    (hend : ∀ u W, Below w.heap.size w W → (∀ i, i < ops.size → ops.size ≤ eatOf pars i → Facts w.heap.size rows vals bs i (u i) W) → Q .normal ⟨(lay T s u).toArray, D⟩ W) :
    (Code.region id ops true).wp P Q ⟨T.toArray, D⟩ w :=
  wp_region_facts (fun u => ⟨(lay T s u).toArray, D⟩) (was T s) rows pars vals bs ops.toList hm (by rw [hs]) rfl hst hput hops hend

section
variable {P : Program} {ops : Array Oper} {Q : Exit → Act → World → Prop} {o : Oper} {a : Act} {w W : World} {K : Act → World → Prop} {u : Nat → Value} {rows : List Nat} {pars : List (Nat × Nat)} {vals : List Value} {bs : List (List UInt8)} {i : Nat}
theorem hk_val (hK : Hid (∀ v W', Facts w.heap.size rows vals bs i v W' → Change (fun i => rows.contains i) (parOf pars) i u W v W' → K (a.put o.dst v) W')) (hr : rows.contains i = false) (hp : parOf pars i = none) :
    Hid (∀ v W', v = nth vals i undef → Below W.heap.size W W' → K (a.put o.dst v) W') := fun v W' h1 h2 =>
  hK v W' (by unfold Facts; rw [hr]; exact h1) (by unfold Change; rw [hp]; exact ⟨h2, fun h => by rw [show (fun i => rows.contains i) i = rows.contains i from rfl, hr] at h; cases h⟩)
theorem hk_row (hB : Below w.heap.size w W) (hK : Hid (∀ v W', Facts w.heap.size rows vals bs i v W' → Change (fun i => rows.contains i) (parOf pars) i u W v W' → K (a.put o.dst v) W')) (hr : rows.contains i = true) (hp : parOf pars i = none) :
    Hid (∀ v W', OB W' W.heap.size v (nth bs i []) → Below W.heap.size W W' → K (a.put o.dst v) W') := fun v W' h1 h2 =>
  hK v W' (by unfold Facts; rw [hr]; exact OB.mono h1 (Below.size hB)) (by unfold Change; rw [hp]; exact ⟨h2, fun _ k hk => OB.base_ h1 k hk⟩)
theorem hk_par (hK : Hid (∀ v W', Facts w.heap.size rows vals bs i v W' → Change (fun i => rows.contains i) (parOf pars) i u W v W' → K (a.put o.dst v) W')) (hr : rows.contains i = true) (p : Nat) (hp : parOf pars i = some p) :
    Hid (∀ v W', OB W' w.heap.size v (nth bs i []) → W.grownBy W' (u p).ownBlock → AtRow W.heap.size (u p) v → K (a.put o.dst v) W') := fun v W' h1 h2 h3 =>
  hK v W' (by unfold Facts; rw [hr]; exact h1) (by unfold Change; rw [hp]; exact ⟨h2, h3⟩)
theorem fact_val {v : Value} (h : Facts w.heap.size rows vals bs i v W) (hr : rows.contains i = false) : v = nth vals i undef := by
  unfold Facts at h; rw [hr] at h; exact h
theorem fact_row {v : Value} (h : Facts w.heap.size rows vals bs i v W) (hr : rows.contains i = true) : OB W w.heap.size v (nth bs i []) := by
  unfold Facts at h; rw [hr] at h; exact h
end
end Go.Proofs.Yteediedhofapkaa
