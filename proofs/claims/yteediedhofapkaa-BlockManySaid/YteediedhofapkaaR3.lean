/- As RF2, with the place of the rows at the region's end: where the row that was there lay, or anew. -/
import Derived.Test.YteediedhofapkaaRF2
namespace Go.Proofs.Yteediedhofapkaa
open Go.RowKit
set_option linter.unusedVariables false
set_option linter.unusedSimpArgs false

theorem OpsOK.map {F G : Nat → Oper → Prop} {ops : Array Oper} : ∀ {l : List Oper} {s : Nat}, (∀ i o, l[i]? = some o → ops[s + i]? = some o) → OpsOK F s l → (∀ i o, ops[i]? = some o → F i o → G i o) → OpsOK G s l := by
  intro l
  induction l with
  | nil => intro s _ _ _; exact .nil
  | cons o l ih =>
    intro s hl h hfg
    cases h with
    | cons h k =>
      refine .cons (hfg s o (by simpa using hl 0 o rfl) h) (ih (fun i o' ho => ?_) k hfg)
      have := hl (i + 1) o' (by simpa using ho)
      rwa [show s + (i + 1) = s + 1 + i by omega] at this
/-- A fact, and where the row lies. -/
def Placed (row0 : Option Nat) (row : Nat → Bool) (w : World) (T : Nat → Value → World → Prop) (i : Nat) (v : Value) (W : World) : Prop :=
  T i v W ∧ (row i = true → ∀ k, v.ownBlock = some k → some k = row0 ∨ w.heap.size ≤ k)
theorem OpOKB.placed {row0 : Option Nat} {r0 : Nat} {P : Program} {ops : Array Oper} {Q : Exit → Act → World → Prop} {mk : (Nat → Value) → Act} {T : Nat → Value → World → Prop} {row : Nat → Bool} {eat : Nat → Nat} {par : Nat → Option Nat} {w : World} {u0 : Nat → Value} {i : Nat} {o : Oper}
    (hst : statOK ops row eat par = true) (ho : ops[i]? = some o) (h : OpOKB row0 r0 P ops Q mk T row eat par w u0 i o) : OpOKB row0 r0 P ops Q mk (Placed row0 row w T) row eat par w u0 i o := by
  intro u W K hB hz0 hz1 hd hK
  refine h u W K hB hz0 hz1 (fun e he hb h2 => (hd e he hb h2).1) (hid fun v W' hT hc => hK.out v W' ⟨hT, ?_⟩ hc)
  intro hr k hk
  unfold ChangeB at hc
  cases hp : par i with
  | none =>
    rw [hp] at hc
    have h3 := hc.2 hr k hk
    split at h3
    · exact .inl h3
    · exact .inr (Nat.le_trans hB.size h3)
  | some p =>
    rw [hp] at hc
    obtain ⟨he, hrp, hri, e, hein, hbin, heon⟩ := statOK_par hst ho hp
    have h3 := hd e hein hbin (.inr (by rw [heon]; exact he))
    rw [heon] at h3
    rcases hc.2 with h4 | ⟨q, hq, hge⟩
    · rw [h4] at hk
      exact h3.2 hrp k hk
    · rw [hq] at hk
      have := Option.some.inj hk
      exact .inr (Nat.le_trans hB.size (by omega))
theorem wp_region_txtP {P : Program} {ops : Array Oper} {Q : Exit → Act → World → Prop} {id : Nat} {T : List Value} {D : List Deferred} {w : World} (B r0 : Nat) (row0 : Option Nat) (s : List (Option Nat)) (rows : List Nat) (pars : List (Nat × Nat)) (vals : List Value) (bs : List (List UInt8))
    (hm : P.follows .mixedOrders = true) (hs : lay T s (was T s) = T)
    (hst : statOK ops (fun i => rows.contains i) (eatOf pars) (parOf pars) = true)
    (hrow0 : ∀ k, row0 = some k → k < w.heap.size)
    (hput : OpsOK (PutOK fun u => ⟨(lay T s u).toArray, D⟩) 0 ops.toList)
    (hops : OpsOK (OpOKB row0 r0 P ops Q (fun u => ⟨(lay T s u).toArray, D⟩) (Facts B rows vals bs) (fun i => rows.contains i) (eatOf pars) (parOf pars) w (was T s)) 0 ops.toList)
    (hend : ∀ u W, w.grownBy W row0 → (∀ i, i < ops.size → ops.size ≤ eatOf pars i → rows.contains i = true → ∀ k, (u i).ownBlock = some k → some k = row0 ∨ w.heap.size ≤ k) → (∀ i, i < ops.size → ops.size ≤ eatOf pars i → Facts B rows vals bs i (u i) W) → Q .normal ⟨(lay T s u).toArray, D⟩ W) :
    (Code.region id ops true).wp P Q ⟨T.toArray, D⟩ w :=
  wp_region_invB (B := B) (r0 := r0) (row0 := row0) (fun u => ⟨(lay T s u).toArray, D⟩) (was T s) (Placed row0 (fun i => rows.contains i) w (Facts B rows vals bs)) _ _ _ ops.toList hm (by rw [hs]) rfl hst
    (fun j v W W' rw h hg hne => ⟨Facts.stabB j v W W' rw h.1 hg hne, h.2⟩) (fun j v W hr h => Facts.boundB j v W hr h.1) hput hrow0
    (OpsOK.map (ops := ops) (fun i o ho => by rw [Nat.zero_add]; simpa using ho) hops fun i o ho h => h.placed hst ho)
    fun u W hB hf => hend u W hB (fun i h1 h2 => (hf i h1 h2).2) (fun i h1 h2 => (hf i h1 h2).1)
end Go.Proofs.Yteediedhofapkaa
