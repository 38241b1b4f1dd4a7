/- Shared texts, part S05: R2, RF2. -/
import Derived.Test.YtkkclkknpjapcaaS03
/-! ### R2 -/
namespace Go.Proofs.Ytkkclkknpjapcaa
open Go.RowKit
set_option linter.unusedVariables false
set_option linter.unusedSimpArgs false

/-- What an operation does to the world, seen from the rows: it changes nothing that was there, or only the row that it uses up. -/
def ChangeB (row0 : Option Nat) (r0 : Nat) (row : Nat → Bool) (par : Nat → Option Nat) (i : Nat) (u : Nat → Value) (w : World) (v : Value) (w' : World) : Prop :=
  match par i with
  | none => Below w.heap.size w w' ∧ (row i = true → ∀ k, v.ownBlock = some k → if i = r0 then some k = row0 else w.heap.size ≤ k)
  | some p => w.grownBy w' (u p).ownBlock ∧ AtRow w.heap.size (u p) v

section
variable {P : Program} {ops : Array Oper} {Q : Exit → Act → World → Prop}

def OpOKB (row0 : Option Nat) (r0 : Nat) (P : Program) (ops : Array Oper) (Q : Exit → Act → World → Prop) (mk : (Nat → Value) → Act) (T : Nat → Value → World → Prop) (row : Nat → Bool) (eat : Nat → Nat) (par : Nat → Option Nat) (w : World) (u0 : Nat → Value) (i : Nat) (o : Oper) : Prop :=
  ∀ (u : Nat → Value) (W : World) (K : Act → World → Prop), w.grownBy W row0 → (i = r0 → Below w.heap.size w W) →
    (∀ j o', ops[j]? = some o' → (∃ e ∈ o'.after, Region.binds .any e = true ∧ e.on = i) → u j = u0 j) →
    (∀ e ∈ o.after, Region.binds .any e = true → ops.size ≤ eat e.on ∨ eat e.on = i → T e.on (u e.on) W) →
    Hid (∀ v W', T i v W' → ChangeB row0 r0 row par i u W v W' → K ((mk u).put o.dst v) W') →
    if Region.wanted o (yielded ops (mk u).tmps) = true then Oper.wp P o (mk u) W K Q else K ((mk u).put o.dst undef) W

structure InvB (row0 : Option Nat) (r0 : Nat) (ops : Array Oper) (T : Nat → Value → World → Prop) (row : Nat → Bool) (eat : Nat → Nat) (w : World) (listed : Array Bool) (u : Nat → Value) (W : World) : Prop where
  below : w.grownBy W row0
  prior : listed.getD r0 false = false → Below w.heap.size w W
  place : ∀ i, row i = true → listed.getD i false = true → listed.getD (eat i) false = false → ∀ k, (u i).ownBlock = some k → some k = row0 ∨ w.heap.size ≤ k
  size : listed.size = ops.size
  facts : ∀ i, listed.getD i false = true → listed.getD (eat i) false = false → T i (u i) W
  apart : ∀ i j, row i = true → row j = true → i ≠ j → listed.getD i false = true → listed.getD j false = true → listed.getD (eat i) false = false → listed.getD (eat j) false = false → (u i).ownBlock = none ∨ (u i).ownBlock ≠ (u j).ownBlock
  newer : listed.getD r0 false = false → ∀ i, row i = true → listed.getD i false = true → listed.getD (eat i) false = false → ∀ k, (u i).ownBlock = some k → w.heap.size ≤ k

theorem InvB.step {B r0 : Nat} {row0 : Option Nat} {T : Nat → Value → World → Prop} {row : Nat → Bool} {eat : Nat → Nat} {par : Nat → Option Nat} {w W W' : World} {listed : Array Bool} {u : Nat → Value} {v : Value} {i : Nat} {o : Oper}
    (hst : statOK ops row eat par = true)
    (hstab : ∀ j v W W' rw, T j v W → W.grownBy W' rw → (row j = true → v.ownBlock = none ∨ v.ownBlock ≠ rw) → T j v W')
    (hbound : ∀ j v W, row j = true → T j v W → ∀ k, v.ownBlock = some k → B ≤ k ∧ k < W.heap.size)
    (hrow0 : ∀ k, row0 = some k → k < w.heap.size) (h : InvB row0 r0 ops T row eat w listed u W) (hi : i ∈ Region.ready .any ops listed) (ho : ops[i]? = some o) (hT : T i v W') (hc : ChangeB row0 r0 row par i u W v W') :
    InvB row0 r0 ops T row eat w (listed.setIfInBounds i true) (upd u i v) W' := by
  obtain ⟨hun, o', ho', hall⟩ := mem_ready.1 hi
  obtain rfl : o = o' := by rw [ho] at ho'; exact Option.some.inj ho'
  obtain ⟨hunf, hlt⟩ := getD_false_of hun
  have hwW : w.heap.size ≤ W.heap.size := h.below.size
  unfold ChangeB at hc
  cases hp : par i with
  | none =>
    rw [hp] at hc
    obtain ⟨hB, hfr⟩ := hc
    have keep : ∀ j, j ≠ i → listed.getD j false = true → listed.getD (eat j) false = false → T j (u j) W' := fun j hj h1 h2 =>
      hstab j (u j) W W' none (h.facts j h1 h2) (below_grown hB none) (fun _ => by cases (u j).ownBlock <;> simp)
    refine ⟨grown_below h.below hB, fun hr => below_then (h.prior (getD_set_back hr)) hB, fun j hj h1 h2 k hk => ?_, by simpa using h.size, fun j h1 h2 => ?_, fun j k hj hk hne h1 h2 h3 h4 => ?_, fun hr j hj h1 h2 k hk => ?_⟩
    · by_cases hji : j = i
      · subst hji
        rw [upd_same] at hk
        have q2 := hfr hj k hk
        by_cases hjr : j = r0
        · rw [if_pos hjr] at q2; exact .inl q2
        · rw [if_neg hjr] at q2; exact .inr (by omega)
      · rw [upd_ne u v hji] at hk
        rw [getD_set_ne false (Ne.symm hji)] at h1
        exact h.place j hj h1 (getD_set_back h2) k hk
    · by_cases hji : j = i
      · subst hji; rw [upd_same]; exact hT
      · rw [upd_ne u v hji]
        rw [getD_set_ne false (Ne.symm hji)] at h1
        exact keep j hji h1 (getD_set_back h2)
    · by_cases hji : j = i
      · subst hji
        rw [upd_same, upd_ne u v (Ne.symm hne)]
        rw [getD_set_ne false hne] at h2
        have bk := hbound k (u k) W hk (h.facts k h2 (getD_set_back h4))
        cases hv : v.ownBlock with
        | none => exact .inl rfl
        | some q =>
          refine .inr fun he => ?_
          have q1 := (bk q he.symm).2
          have q2 := hfr hj q hv
          by_cases hjr : j = r0
          · rw [if_pos hjr] at q2
            have q3 := hrow0 q q2.symm
            have := h.newer (by rw [← hjr]; exact hunf) k hk h2 (getD_set_back h4) q he.symm
            omega
          · rw [if_neg hjr] at q2
            omega
      · rw [upd_ne u v hji]
        rw [getD_set_ne false (Ne.symm hji)] at h1
        by_cases hki : k = i
        · subst hki
          rw [upd_same]
          have bj := hbound j (u j) W hj (h.facts j h1 (getD_set_back h3))
          cases hv : (u j).ownBlock with
          | none => exact .inl rfl
          | some q =>
            refine .inr fun he => ?_
            have q1 := (bj q hv).2
            have q2 := hfr hk q he.symm
            by_cases hkr : k = r0
            · rw [if_pos hkr] at q2
              have q3 := hrow0 q q2.symm
              have := h.newer (by rw [← hkr]; exact hunf) j hj h1 (getD_set_back h3) q hv
              omega
            · rw [if_neg hkr] at q2
              omega
        · rw [upd_ne u v hki]
          rw [getD_set_ne false (Ne.symm hki)] at h2
          exact h.apart j k hj hk hne h1 h2 (getD_set_back h3) (getD_set_back h4)
    · have hir : i ≠ r0 := fun e => by rw [← e, getD_set_self hlt] at hr; cases hr
      by_cases hji : j = i
      · subst hji
        rw [upd_same] at hk
        have := hfr hj k hk
        rw [if_neg hir] at this
        omega
      · rw [upd_ne u v hji] at hk
        rw [getD_set_ne false (Ne.symm hji)] at h1
        exact h.newer (getD_set_back hr) j hj h1 (getD_set_back h2) k hk
  | some p =>
    rw [hp] at hc
    obtain ⟨hg, hat⟩ := hc
    obtain ⟨he, hrp, hri, e, hein, hbin, heon⟩ := statOK_par hst ho hp
    have hpl : listed.getD p false = true := by rw [← heon]; exact hall e hein hbin
    have hpe : listed.getD (eat p) false = false := by rw [he]; exact hunf
    have hTp := h.facts p hpl hpe
    have hbp := hbound p (u p) W hrp hTp
    have notp : ∀ j, (listed.setIfInBounds i true).getD (eat j) false = false → j ≠ p := fun j hj hjp => by
      rw [hjp, he, getD_set_self hlt] at hj; cases hj
    have keep : ∀ j, j ≠ i → j ≠ p → listed.getD j false = true → listed.getD (eat j) false = false → T j (u j) W' := fun j hj hjp h1 h2 =>
      hstab j (u j) W W' _ (h.facts j h1 h2) hg (fun hr => h.apart j p hr hrp hjp h1 hpl h2 hpe)
    refine ⟨⟨hg.os.trans h.below.os, hg.tape.trans h.below.tape, hg.output.trans h.below.output, Nat.le_trans h.below.size hg.size, fun b hb hne => (hg.block b (Nat.lt_of_lt_of_le hb h.below.size) (fun e => by
      rcases h.place p hrp hpl hpe b e.symm with hx | hx
      · exact hne hx
      · omega)).trans (h.below.block b hb hne)⟩, fun hr => (h.prior (getD_set_back hr)).grown hg h.below.size (fun k hk => h.newer (getD_set_back hr) p hrp hpl hpe k hk), fun j hj h1 h2 k hk => ?_, by simpa using h.size, fun j h1 h2 => ?_, fun j k hj hk hne h1 h2 h3 h4 => ?_, fun hr j hj h1 h2 k hk => ?_⟩
    · by_cases hji : j = i
      · subst hji
        rw [upd_same] at hk
        rcases hat with hat | ⟨q, hq, hge⟩
        · rw [hat] at hk
          exact h.place p hrp hpl hpe k hk
        · rw [hq] at hk
          have := Option.some.inj hk
          exact .inr (by omega)
      · rw [upd_ne u v hji] at hk
        rw [getD_set_ne false (Ne.symm hji)] at h1
        exact h.place j hj h1 (getD_set_back h2) k hk
    · by_cases hji : j = i
      · subst hji; rw [upd_same]; exact hT
      · rw [upd_ne u v hji]
        rw [getD_set_ne false (Ne.symm hji)] at h1
        exact keep j hji (notp j h2) h1 (getD_set_back h2)
    · by_cases hji : j = i
      · subst hji
        rw [upd_same, upd_ne u v (Ne.symm hne)]
        rw [getD_set_ne false hne] at h2
        have bk := hbound k (u k) W hk (h.facts k h2 (getD_set_back h4))
        rcases hat with hat | ⟨q, hq, hge⟩
        · rw [hat]
          exact h.apart p k hrp hk (Ne.symm (notp k h4)) hpl h2 hpe (getD_set_back h4)
        · refine .inr fun hx => ?_
          have := (bk q (hx.symm.trans hq)).2
          omega
      · rw [upd_ne u v hji]
        rw [getD_set_ne false (Ne.symm hji)] at h1
        by_cases hki : k = i
        · subst hki
          rw [upd_same]
          have bj := hbound j (u j) W hj (h.facts j h1 (getD_set_back h3))
          rcases hat with hat | ⟨q, hq, hge⟩
          · rw [hat]
            exact h.apart j p hj hrp (notp j h3) h1 hpl (getD_set_back h3) hpe
          · cases hv : (u j).ownBlock with
            | none => exact .inl rfl
            | some r =>
              refine .inr fun hx => ?_
              rw [hq] at hx
              have := (bj r hv).2
              have := Option.some.inj hx
              omega
        · rw [upd_ne u v hki]
          rw [getD_set_ne false (Ne.symm hki)] at h2
          exact h.apart j k hj hk hne h1 h2 (getD_set_back h3) (getD_set_back h4)
    · by_cases hji : j = i
      · subst hji
        rw [upd_same] at hk
        rcases hat with hat | ⟨q, hq, hge⟩
        · rw [hat] at hk
          exact h.newer (getD_set_back hr) p hrp hpl hpe k hk
        · rw [hq] at hk
          have := Option.some.inj hk
          omega
      · rw [upd_ne u v hji] at hk
        rw [getD_set_ne false (Ne.symm hji)] at h1
        exact h.newer (getD_set_back hr) j hj h1 (getD_set_back h2) k hk

theorem was_of {u u0 : Nat → Value} {i : Nat} (h : ∀ j o', ops[j]? = some o' → (∃ e ∈ o'.after, Region.binds .any e = true ∧ e.on = i) → u j = u0 j) (j : Nat) (hj : ((ops[j]?).any fun o' => o'.after.any fun e => Region.binds .any e && e.on == i) = true) : u j = u0 j := by
  cases ho : ops[j]? with
  | none => rw [ho] at hj; cases hj
  | some o' =>
    rw [ho] at hj
    have hj : (o'.after.any fun e => Region.binds .any e && e.on == i) = true := hj
    obtain ⟨e, he, hb⟩ := Array.any_eq_true'.1 hj
    simp only [Bool.and_eq_true, beq_iff_eq] at hb
    exact h j o' ho ⟨e, he, hb.1, hb.2⟩
theorem inv_anyB {B r0 : Nat} {row0 : Option Nat} {T : Nat → Value → World → Prop} {row : Nat → Bool} {eat : Nat → Nat} {par : Nat → Option Nat} {w : World} {mk : (Nat → Value) → Act} {u0 : Nat → Value}
    (hst : statOK ops row eat par = true)
    (hstab : ∀ j v W W' rw, T j v W → W.grownBy W' rw → (row j = true → v.ownBlock = none ∨ v.ownBlock ≠ rw) → T j v W')
    (hbound : ∀ j v W, row j = true → T j v W → ∀ k, v.ownBlock = some k → B ≤ k ∧ k < W.heap.size)
    (hput : ∀ i o, ops[i]? = some o → PutOK mk i o)
    (hrow0 : ∀ k, row0 = some k → k < w.heap.size)
    (hops : ∀ i o, ops[i]? = some o → OpOKB row0 r0 P ops Q mk T row eat par w u0 i o)
    (hend : ∀ u W, w.grownBy W row0 → (∀ i, i < ops.size → ops.size ≤ eat i → T i (u i) W) → Q .normal (mk u) W) :
    ∀ (fuel : Nat) (listed : Array Bool) (u : Nat → Value) (W : World), InvB row0 r0 ops T row eat w listed u W → (∀ j, listed.getD j false = false → u j = u0 j) → (∀ j o', ops[j]? = some o' → listed.getD j false = true → ∀ e ∈ o'.after, Region.binds .any e = true → listed.getD e.on false = true) → listed.toList.count false ≤ fuel → wpAny P .any ops Q fuel listed (mk u) W := by
  have fin : ∀ (listed : Array Bool) (u : Nat → Value) (W : World), InvB row0 r0 ops T row eat w listed u W → Region.ready .any ops listed = [] → Q .normal (mk u) W := fun listed u W h hr =>
    hend u W h.below fun i hi he => h.facts i (all_listed hst h.size hr i hi) (by have := h.size; simp [show ¬ eat i < listed.size by omega])
  intro fuel
  induction fuel with
  | zero =>
    intro listed u W h hs hdp hc
    have hr : Region.ready .any ops listed = [] := by
      refine List.eq_nil_iff_forall_not_mem.2 fun i hi => ?_
      obtain ⟨h0, _⟩ := mem_ready.1 hi
      obtain ⟨h1, hlt⟩ := getD_false_of h0
      have : false ∈ listed.toList := by
        simp [hlt] at h1
        rw [← h1]
        simp
      have := List.count_pos_iff.2 this
      omega
    exact ⟨hr, fin listed u W h hr⟩
  | succ fuel ih =>
    intro listed u W h hs hdp hc
    refine ⟨fin listed u W h, fun i hi => ?_⟩
    obtain ⟨hun, o, ho, hall⟩ := mem_ready.1 hi
    obtain ⟨hunf, hlt⟩ := getD_false_of hun
    refine wpOp_step ho fun K' hK => hops i o ho u W K' h.below (fun hir => h.prior (by rw [← hir]; exact hunf)) (fun j o' ho' ⟨e, he, hb, hei⟩ => hs j (by
      cases hj : listed.getD j false with
      | false => rfl
      | true => have := hdp j o' ho' hj e he hb; rw [hei, hunf] at this; cases this)) (fun e he hb hor => h.facts e.on (hall e he hb) ?_) fun v W' hT hc' => hK _ _ ?_
    · rcases hor with hor | hor
      · have := h.size
        simp [show ¬ eat e.on < listed.size by omega]
      · rw [hor]; exact hunf
    · rw [hput i o ho u v]
      refine ih _ _ _ (h.step hst hstab hbound hrow0 hi ho hT hc') (fun j hj => ?_) (fun j o' ho' hj e he hb => ?_) ?_
      · have hji : j ≠ i := fun e => by rw [e, getD_set_self hlt] at hj; cases hj
        rw [upd_ne u v hji]; exact hs j (getD_set_back hj)
      · have hold : listed.getD e.on false = true := by
          by_cases hji : j = i
          · subst hji
            obtain rfl : o = o' := by rw [ho] at ho'; exact Option.some.inj ho'
            exact hall e he hb
          · rw [getD_set_ne false (Ne.symm hji)] at hj
            exact hdp j o' ho' hj e he hb
        by_cases hei : e.on = i
        · rw [hei]; exact getD_set_self hlt
        · rw [getD_set_ne false (Ne.symm hei)]; exact hold
      have : (listed.setIfInBounds i true).toList.count false = listed.toList.count false - 1 := by
        rw [Array.toList_setIfInBounds, List.count_set (by simpa using hlt)]
        simp [hlt] at hunf
        simp [hunf]
      omega

theorem wp_region_invB {B r0 : Nat} {row0 : Option Nat} {id : Nat} {a : Act} {w : World} (mk : (Nat → Value) → Act) (u0 : Nat → Value) (T : Nat → Value → World → Prop) (row : Nat → Bool) (eat : Nat → Nat) (par : Nat → Option Nat) (L : List Oper)
    (hm : P.follows .mixedOrders = true) (ha : a = mk u0) (hL : ops.toList = L)
    (hst : statOK ops row eat par = true)
    (hstab : ∀ j v W W' rw, T j v W → W.grownBy W' rw → (row j = true → v.ownBlock = none ∨ v.ownBlock ≠ rw) → T j v W')
    (hbound : ∀ j v W, row j = true → T j v W → ∀ k, v.ownBlock = some k → B ≤ k ∧ k < W.heap.size)
    (hput : OpsOK (PutOK mk) 0 L)
    (hrow0 : ∀ k, row0 = some k → k < w.heap.size)
    (hops : OpsOK (OpOKB row0 r0 P ops Q mk T row eat par w u0) 0 L)
    (hend : ∀ u W, w.grownBy W row0 → (∀ i, i < ops.size → ops.size ≤ eat i → T i (u i) W) → Q .normal (mk u) W) :
    (Code.region id ops true).wp P Q a w := by
  subst ha hL
  have get : ∀ {F : Nat → Oper → Prop}, OpsOK F 0 ops.toList → ∀ i o, ops[i]? = some o → F i o := fun h i o ho => by
    have := h.get (i := i) (o := o) (by simpa using ho)
    rwa [Nat.zero_add] at this
  refine wp_region_any hm (inv_anyB hst hstab hbound (get hput) hrow0 (get hops) hend ops.size _ u0 _ ?_ (fun _ _ => rfl) (fun i _ _ h => by exfalso; simp [Array.getElem?_replicate] at h; split at h <;> cases h) (by simp))
  refine ⟨?_, fun _ => (Below.refl _ w).drew, fun i _ h => ?_, by simp, fun i h => ?_, fun i j _ _ _ h => ?_, fun _ i _ h => ?_⟩
  · exact below_grown (Below.refl _ w).drew _
  · exfalso; simp [Array.getElem?_replicate] at h; split at h <;> cases h
  · exfalso; simp [Array.getElem?_replicate] at h; split at h <;> cases h
  · exfalso; simp [Array.getElem?_replicate] at h; split at h <;> cases h
  · exfalso; simp [Array.getElem?_replicate] at h; split at h <;> cases h
end
end Go.Proofs.Ytkkclkknpjapcaa
/-! ### RF2 -/
namespace Go.Proofs.Ytkkclkknpjapcaa
open Go.RowKit
set_option linter.unusedVariables false
set_option linter.unusedSimpArgs false

theorem Facts.stabB {B : Nat} {rows : List Nat} {vals : List Value} {bs : List (List UInt8)} :
    ∀ j v W W' rw, Facts B rows vals bs j v W → W.grownBy W' rw → (rows.contains j = true → v.ownBlock = none ∨ v.ownBlock ≠ rw) → Facts B rows vals bs j v W' := by
  intro j v W W' rw h hg hne
  unfold Facts at *
  cases hr : rows.contains j with
  | true => rw [hr] at h hne; exact OB.other h hg (hne rfl)
  | false => rw [hr] at h; exact h
theorem Facts.boundB {B : Nat} {rows : List Nat} {vals : List Value} {bs : List (List UInt8)} :
    ∀ j v W, rows.contains j = true → Facts B rows vals bs j v W → ∀ k, v.ownBlock = some k → B ≤ k ∧ k < W.heap.size := by
  intro j v W hr h k hk
  unfold Facts at h
  rw [hr] at h
  exact World.ownsRow.lt h k hk
theorem wp_region_txtB {P : Program} {ops : Array Oper} {Q : Exit → Act → World → Prop} {id : Nat} {T : List Value} {D : List Deferred} {w : World} (B r0 : Nat) (row0 : Option Nat) (s : List (Option Nat)) (rows : List Nat) (pars : List (Nat × Nat)) (vals : List Value) (bs : List (List UInt8))
    (hm : P.follows .mixedOrders = true) (hs : lay T s (was T s) = T)
    (hst : statOK ops (fun i => rows.contains i) (eatOf pars) (parOf pars) = true)
    (hrow0 : ∀ k, row0 = some k → k < w.heap.size)
    (hput : OpsOK (PutOK fun u => ⟨(lay T s u).toArray, D⟩) 0 ops.toList)
    (hops : OpsOK (OpOKB row0 r0 P ops Q (fun u => ⟨(lay T s u).toArray, D⟩) (Facts B rows vals bs) (fun i => rows.contains i) (eatOf pars) (parOf pars) w (was T s)) 0 ops.toList)
    (hend : ∀ u W, w.grownBy W row0 → (∀ i, i < ops.size → ops.size ≤ eatOf pars i → Facts B rows vals bs i (u i) W) → Q .normal ⟨(lay T s u).toArray, D⟩ W) :
    (Code.region id ops true).wp P Q ⟨T.toArray, D⟩ w :=
  wp_region_invB (B := B) (r0 := r0) (row0 := row0) (fun u => ⟨(lay T s u).toArray, D⟩) (was T s) _ _ _ _ ops.toList hm (by rw [hs]) rfl hst Facts.stabB Facts.boundB hput hrow0 hops hend
section
variable {P : Program} {ops : Array Oper} {Q : Exit → Act → World → Prop} {o : Oper} {a : Act} {w W : World} {K : Act → World → Prop} {u : Nat → Value} {rows : List Nat} {pars : List (Nat × Nat)} {vals : List Value} {bs : List (List UInt8)} {i B r0 : Nat} {row0 : Option Nat}
theorem hk_valB (hK : Hid (∀ v W', Facts B rows vals bs i v W' → ChangeB row0 r0 (fun i => rows.contains i) (parOf pars) i u W v W' → K (a.put o.dst v) W')) (hr : rows.contains i = false) (hp : parOf pars i = none) :
    Hid (∀ v W', v = nth vals i undef → Below W.heap.size W W' → K (a.put o.dst v) W') := fun v W' h1 h2 =>
  hK v W' (by unfold Facts; rw [hr]; exact h1) (by unfold ChangeB; rw [hp]; exact ⟨h2, fun h => by rw [show (fun i => rows.contains i) i = rows.contains i from rfl, hr] at h; cases h⟩)
theorem hk_rowB (hBW : B ≤ W.heap.size) (hK : Hid (∀ v W', Facts B rows vals bs i v W' → ChangeB row0 r0 (fun i => rows.contains i) (parOf pars) i u W v W' → K (a.put o.dst v) W')) (hi : i ≠ r0) (hr : rows.contains i = true) (hp : parOf pars i = none) :
    Hid (∀ v W', OB W' W.heap.size v (nth bs i []) → Below W.heap.size W W' → K (a.put o.dst v) W') := fun v W' h1 h2 =>
  hK v W' (by unfold Facts; rw [hr]; exact OB.mono h1 hBW) (by unfold ChangeB; rw [hp]; exact ⟨h2, fun _ k hk => by rw [if_neg hi]; exact OB.base_ h1 k hk⟩)
theorem hk_oldB (hK : Hid (∀ v W', Facts B rows vals bs i v W' → ChangeB row0 r0 (fun i => rows.contains i) (parOf pars) i u W v W' → K (a.put o.dst v) W')) (hi : i = r0) (hr : rows.contains i = true) (hp : parOf pars i = none) :
    Hid (∀ v, OB W B v (nth bs i []) → (∀ k, v.ownBlock = some k → some k = row0) → K (a.put o.dst v) W) := fun v h1 h2 =>
  hK v W (by unfold Facts; rw [hr]; exact h1) (by unfold ChangeB; rw [hp]; exact ⟨Below.refl _ _, fun _ k hk => by rw [if_pos hi]; exact h2 k hk⟩)
theorem hk_parB (hK : Hid (∀ v W', Facts B rows vals bs i v W' → ChangeB row0 r0 (fun i => rows.contains i) (parOf pars) i u W v W' → K (a.put o.dst v) W')) (hr : rows.contains i = true) (p : Nat) (hp : parOf pars i = some p) :
    Hid (∀ v W', OB W' B v (nth bs i []) → W.grownBy W' (u p).ownBlock → AtRow W.heap.size (u p) v → K (a.put o.dst v) W') := fun v W' h1 h2 h3 =>
  hK v W' (by unfold Facts; rw [hr]; exact h1) (by unfold ChangeB; rw [hp]; exact ⟨h2, h3⟩)
theorem fact_valB {v : Value} (h : Facts B rows vals bs i v W) (hr : rows.contains i = false) : v = nth vals i undef := by
  unfold Facts at h; rw [hr] at h; exact h
theorem fact_rowB {v : Value} (h : Facts B rows vals bs i v W) (hr : rows.contains i = true) : OB W B v (nth bs i []) := by
  unfold Facts at h; rw [hr] at h; exact h
end
end Go.Proofs.Ytkkclkknpjapcaa
