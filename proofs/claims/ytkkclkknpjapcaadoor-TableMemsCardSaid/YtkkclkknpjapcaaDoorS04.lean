/- Shared texts, part S04: R, RF. -/
import Derived.Orders
import Derived.RegionTactic
import Derived.Test.YtkkclkknpjapcaaDoorS01
import Derived.Test.YtkkclkknpjapcaaDoorS02
/-! ### R -/
namespace Go.Proofs.YtkkclkknpjapcaaDoor
open Go.RowKit
set_option linter.unusedVariables false
set_option linter.unusedSimpArgs false

def upd (u : Nat → Value) (i : Nat) (v : Value) : Nat → Value := fun j => if j = i then v else u j
theorem upd_same (u : Nat → Value) (i : Nat) (v : Value) : upd u i v i = v := by simp [upd]
theorem upd_ne (u : Nat → Value) {i j : Nat} (v : Value) (h : j ≠ i) : upd u i v j = u j := by simp [upd, h]

inductive OpsOK (F : Nat → Oper → Prop) : Nat → List Oper → Prop
  | nil {i : Nat} : OpsOK F i []
  | cons {i : Nat} {o : Oper} {l : List Oper} (h : F i o) (k : OpsOK F (i + 1) l) : OpsOK F i (o :: l)
theorem OpsOK.get {F : Nat → Oper → Prop} {l : List Oper} {s : Nat} (h : OpsOK F s l) : ∀ {i : Nat} {o : Oper}, l[i]? = some o → F (s + i) o := by
  induction h with
  | nil => intro i o h; simp at h
  | cons h k ih =>
    intro i o hi
    rcases i with _ | i
    · simp at hi; subst hi; exact h
    · have := ih (i := i) (by simpa using hi)
      rwa [Nat.add_assoc, Nat.add_comm 1] at this

/-- What an operation does to the world, seen from the rows: it changes nothing that was there, or only the row that it uses up. -/
def Change (row : Nat → Bool) (par : Nat → Option Nat) (i : Nat) (u : Nat → Value) (w : World) (v : Value) (w' : World) : Prop :=
  match par i with
  | none => Below w.heap.size w w' ∧ (row i = true → ∀ k, v.ownBlock = some k → w.heap.size ≤ k)
  | some p => w.grownBy w' (u p).ownBlock ∧ AtRow w.heap.size (u p) v

section
variable {P : Program} {ops : Array Oper} {Q : Exit → Act → World → Prop}

def OpOK (P : Program) (ops : Array Oper) (Q : Exit → Act → World → Prop) (mk : (Nat → Value) → Act) (T : Nat → Value → World → Prop) (row : Nat → Bool) (eat : Nat → Nat) (par : Nat → Option Nat) (w : World) (i : Nat) (o : Oper) : Prop :=
  ∀ (u : Nat → Value) (W : World) (K : Act → World → Prop), Below w.heap.size w W →
    (∀ e ∈ o.after, Region.binds .any e = true → ops.size ≤ eat e.on ∨ eat e.on = i → T e.on (u e.on) W) →
    Hid (∀ v W', T i v W' → Change row par i u W v W' → K ((mk u).put o.dst v) W') →
    if Region.wanted o (yielded ops (mk u).tmps) = true then Oper.wp P o (mk u) W K Q else K ((mk u).put o.dst undef) W

def PutOK (mk : (Nat → Value) → Act) (i : Nat) (o : Oper) : Prop := ∀ u v, (mk u).put o.dst v = mk (upd u i v)
/-- What is seen by looking at the region: the operations lie in the order of their edges, and each eater stands behind its row. -/
def statOK (ops : Array Oper) (row : Nat → Bool) (eat : Nat → Nat) (par : Nat → Option Nat) : Bool :=
  (List.range ops.size).all fun i => match ops[i]? with
    | none => true
    | some o => (o.after.all fun e => decide (e.on < i)) && (match par i with
      | none => true
      | some p => (eat p == i) && row p && row i && o.after.any fun e => Region.binds .any e && e.on == p)

structure Inv (ops : Array Oper) (T : Nat → Value → World → Prop) (row : Nat → Bool) (eat : Nat → Nat) (w : World) (listed : Array Bool) (u : Nat → Value) (W : World) : Prop where
  below : Below w.heap.size w W
  size : listed.size = ops.size
  facts : ∀ i, listed.getD i false = true → listed.getD (eat i) false = false → T i (u i) W
  apart : ∀ i j, row i = true → row j = true → i ≠ j → listed.getD i false = true → listed.getD j false = true → listed.getD (eat i) false = false → listed.getD (eat j) false = false → (u i).ownBlock = none ∨ (u i).ownBlock ≠ (u j).ownBlock

theorem statOK_after {row : Nat → Bool} {eat : Nat → Nat} {par : Nat → Option Nat} (h : statOK ops row eat par = true) {i : Nat} {o : Oper} (ho : ops[i]? = some o) : ∀ e ∈ o.after, e.on < i := by
  have hlt : i < ops.size := (Array.getElem?_eq_some_iff.1 ho).1
  have h1 := List.all_eq_true.1 h i (List.mem_range.2 hlt)
  simp only [ho, Bool.and_eq_true] at h1
  intro e he
  simpa using Array.all_eq_true_iff_forall_mem.1 h1.1 e he
theorem statOK_par {row : Nat → Bool} {eat : Nat → Nat} {par : Nat → Option Nat} (h : statOK ops row eat par = true) {i p : Nat} {o : Oper} (ho : ops[i]? = some o) (hp : par i = some p) :
    eat p = i ∧ row p = true ∧ row i = true ∧ ∃ e ∈ o.after, Region.binds .any e = true ∧ e.on = p := by
  have hlt : i < ops.size := (Array.getElem?_eq_some_iff.1 ho).1
  have h1 := List.all_eq_true.1 h i (List.mem_range.2 hlt)
  simp only [ho, hp, Bool.and_eq_true, beq_iff_eq] at h1
  obtain ⟨_, ⟨⟨h2, h3⟩, h4⟩, h5⟩ := h1
  obtain ⟨e, he, hb⟩ := Array.any_eq_true'.1 h5
  simp only [Bool.and_eq_true, beq_iff_eq] at hb
  exact ⟨h2, h3, h4, e, he, hb.1, hb.2⟩

theorem getD_set_self {listed : Array Bool} {i : Nat} (h : i < listed.size) : (listed.setIfInBounds i true).getD i false = true := by simp [h]
theorem getD_set_back {listed : Array Bool} {i j : Nat} (h : (listed.setIfInBounds i true).getD j false = false) : listed.getD j false = false := by
  by_cases hx : listed.getD j false = true
  · rw [getD_set_true hx] at h; cases h
  · simpa using hx
theorem getD_false_of {listed : Array Bool} {i : Nat} (h : listed.getD i true = false) : listed.getD i false = false ∧ i < listed.size := by
  rcases Nat.lt_or_ge i listed.size with h' | h'
  · simp [h'] at h ⊢; exact h
  · simp [Array.getElem?_eq_none h'] at h

theorem Inv.step {T : Nat → Value → World → Prop} {row : Nat → Bool} {eat : Nat → Nat} {par : Nat → Option Nat} {w W W' : World} {listed : Array Bool} {u : Nat → Value} {v : Value} {i : Nat} {o : Oper}
    (hst : statOK ops row eat par = true)
    (hstab : ∀ j v W W' rw, T j v W → W.grownBy W' rw → (row j = true → v.ownBlock = none ∨ v.ownBlock ≠ rw) → (∀ k, rw = some k → w.heap.size ≤ k) → Below w.heap.size w W → T j v W')
    (hbound : ∀ j v W, row j = true → T j v W → ∀ k, v.ownBlock = some k → w.heap.size ≤ k ∧ k < W.heap.size)
    (h : Inv ops T row eat w listed u W) (hi : i ∈ Region.ready .any ops listed) (ho : ops[i]? = some o) (hT : T i v W') (hc : Change row par i u W v W') :
    Inv ops T row eat w (listed.setIfInBounds i true) (upd u i v) W' := by
  obtain ⟨hun, o', ho', hall⟩ := mem_ready.1 hi
  obtain rfl : o = o' := by rw [ho] at ho'; exact Option.some.inj ho'
  obtain ⟨hunf, hlt⟩ := getD_false_of hun
  unfold Change at hc
  cases hp : par i with
  | none =>
    rw [hp] at hc
    obtain ⟨hB, hfr⟩ := hc
    have keep : ∀ j, j ≠ i → listed.getD j false = true → listed.getD (eat j) false = false → T j (u j) W' := fun j hj h1 h2 =>
      hstab j (u j) W W' none (h.facts j h1 h2) (below_grown hB none) (fun _ => by cases (u j).ownBlock <;> simp) (fun k hk => by cases hk) h.below
    refine ⟨below_then h.below hB, by simpa using h.size, fun j h1 h2 => ?_, fun j k hj hk hne h1 h2 h3 h4 => ?_⟩
    · by_cases hji : j = i
      · subst hji; rw [upd_same]; exact hT
      · rw [upd_ne u v hji]
        rw [getD_set_ne false (Ne.symm hji)] at h1
        exact keep j hji h1 (getD_set_back h2)
    · by_cases hji : j = i
      · subst hji
        rw [upd_same, upd_ne u v (Ne.symm hne)]
        rw [getD_set_ne false hne] at h2
        have bk := hbound k (u k) W hk (h.facts k h2 (getD_set_back h4))
        cases hv : v.ownBlock with
        | none => exact .inl rfl
        | some q =>
          refine .inr fun he => ?_
          have := (bk q he.symm).2
          have := hfr hj q hv
          omega
      · rw [upd_ne u v hji]
        rw [getD_set_ne false (Ne.symm hji)] at h1
        by_cases hki : k = i
        · subst hki
          rw [upd_same]
          have bj := hbound j (u j) W hj (h.facts j h1 (getD_set_back h3))
          cases hv : (u j).ownBlock with
          | none => exact .inl rfl
          | some q =>
            refine .inr fun he => ?_
            have := (bj q hv).2
            have := hfr hk q he.symm
            omega
        · rw [upd_ne u v hki]
          rw [getD_set_ne false (Ne.symm hki)] at h2
          exact h.apart j k hj hk hne h1 h2 (getD_set_back h3) (getD_set_back h4)
  | some p =>
    rw [hp] at hc
    obtain ⟨hg, hat⟩ := hc
    obtain ⟨he, hrp, hri, e, hein, hbin, heon⟩ := statOK_par hst ho hp
    have hpl : listed.getD p false = true := by rw [← heon]; exact hall e hein hbin
    have hpe : listed.getD (eat p) false = false := by rw [he]; exact hunf
    have hTp := h.facts p hpl hpe
    have hbp := hbound p (u p) W hrp hTp
    have notp : ∀ j, (listed.setIfInBounds i true).getD (eat j) false = false → j ≠ p := fun j hj hjp => by
      rw [hjp, he, getD_set_self hlt] at hj; cases hj
    have keep : ∀ j, j ≠ i → j ≠ p → listed.getD j false = true → listed.getD (eat j) false = false → T j (u j) W' := fun j hj hjp h1 h2 =>
      hstab j (u j) W W' _ (h.facts j h1 h2) hg (fun hr => h.apart j p hr hrp hjp h1 hpl h2 hpe) (fun k hk => (hbp k hk).1) h.below
    refine ⟨h.below.grown hg (below_base h.below (Nat.le_refl _)) (fun k hk => (hbp k hk).1), by simpa using h.size, fun j h1 h2 => ?_, fun j k hj hk hne h1 h2 h3 h4 => ?_⟩
    · by_cases hji : j = i
      · subst hji; rw [upd_same]; exact hT
      · rw [upd_ne u v hji]
        rw [getD_set_ne false (Ne.symm hji)] at h1
        exact keep j hji (notp j h2) h1 (getD_set_back h2)
    · by_cases hji : j = i
      · subst hji
        rw [upd_same, upd_ne u v (Ne.symm hne)]
        rw [getD_set_ne false hne] at h2
        have bk := hbound k (u k) W hk (h.facts k h2 (getD_set_back h4))
        rcases hat with hat | ⟨q, hq, hge⟩
        · rw [hat]
          exact h.apart p k hrp hk (Ne.symm (notp k h4)) hpl h2 hpe (getD_set_back h4)
        · refine .inr fun hx => ?_
          have := (bk q (hx.symm.trans hq)).2
          omega
      · rw [upd_ne u v hji]
        rw [getD_set_ne false (Ne.symm hji)] at h1
        by_cases hki : k = i
        · subst hki
          rw [upd_same]
          have bj := hbound j (u j) W hj (h.facts j h1 (getD_set_back h3))
          rcases hat with hat | ⟨q, hq, hge⟩
          · rw [hat]
            exact h.apart j p hj hrp (notp j h3) h1 hpl (getD_set_back h3) hpe
          · cases hv : (u j).ownBlock with
            | none => exact .inl rfl
            | some r =>
              refine .inr fun hx => ?_
              rw [hq] at hx
              have := (bj r hv).2
              have := Option.some.inj hx
              omega
        · rw [upd_ne u v hki]
          rw [getD_set_ne false (Ne.symm hki)] at h2
          exact h.apart j k hj hk hne h1 h2 (getD_set_back h3) (getD_set_back h4)

theorem all_listed {row : Nat → Bool} {eat : Nat → Nat} {par : Nat → Option Nat} (hst : statOK ops row eat par = true) {listed : Array Bool} (hsz : listed.size = ops.size) (hr : Region.ready .any ops listed = []) :
    ∀ i, i < ops.size → listed.getD i false = true := by
  intro i
  induction i using Nat.strongRecOn with
  | ind i ih =>
    intro hi
    by_cases hl : listed.getD i false = true
    · exact hl
    · exfalso
      obtain ⟨o, ho⟩ : ∃ o, ops[i]? = some o := ⟨_, Array.getElem?_eq_getElem hi⟩
      have hm : i ∈ Region.ready .any ops listed := mem_ready.2 ⟨by
        have h' : i < listed.size := by omega
        simp [h'] at hl ⊢; exact hl, o, ho, fun e he _ => ih e.on (statOK_after hst ho e he) (by have := statOK_after hst ho e he; omega)⟩
      rw [hr] at hm
      cases hm

theorem inv_any {T : Nat → Value → World → Prop} {row : Nat → Bool} {eat : Nat → Nat} {par : Nat → Option Nat} {w : World} {mk : (Nat → Value) → Act}
    (hst : statOK ops row eat par = true)
    (hstab : ∀ j v W W' rw, T j v W → W.grownBy W' rw → (row j = true → v.ownBlock = none ∨ v.ownBlock ≠ rw) → (∀ k, rw = some k → w.heap.size ≤ k) → Below w.heap.size w W → T j v W')
    (hbound : ∀ j v W, row j = true → T j v W → ∀ k, v.ownBlock = some k → w.heap.size ≤ k ∧ k < W.heap.size)
    (hput : ∀ i o, ops[i]? = some o → PutOK mk i o)
    (hops : ∀ i o, ops[i]? = some o → OpOK P ops Q mk T row eat par w i o)
    (hend : ∀ u W, Below w.heap.size w W → (∀ i, i < ops.size → ops.size ≤ eat i → T i (u i) W) → Q .normal (mk u) W) :
    ∀ (fuel : Nat) (listed : Array Bool) (u : Nat → Value) (W : World), Inv ops T row eat w listed u W → listed.toList.count false ≤ fuel → wpAny P .any ops Q fuel listed (mk u) W := by
  have fin : ∀ (listed : Array Bool) (u : Nat → Value) (W : World), Inv ops T row eat w listed u W → Region.ready .any ops listed = [] → Q .normal (mk u) W := fun listed u W h hr =>
    hend u W h.below fun i hi he => h.facts i (all_listed hst h.size hr i hi) (by have := h.size; simp [show ¬ eat i < listed.size by omega])
  intro fuel
  induction fuel with
  | zero =>
    intro listed u W h hc
    have hr : Region.ready .any ops listed = [] := by
      refine List.eq_nil_iff_forall_not_mem.2 fun i hi => ?_
      obtain ⟨h0, _⟩ := mem_ready.1 hi
      obtain ⟨h1, hlt⟩ := getD_false_of h0
      have : false ∈ listed.toList := by
        simp [hlt] at h1
        rw [← h1]
        simp
      have := List.count_pos_iff.2 this
      omega
    exact ⟨hr, fin listed u W h hr⟩
  | succ fuel ih =>
    intro listed u W h hc
    refine ⟨fin listed u W h, fun i hi => ?_⟩
    obtain ⟨hun, o, ho, hall⟩ := mem_ready.1 hi
    obtain ⟨hunf, hlt⟩ := getD_false_of hun
    refine wpOp_step ho fun K' hK => hops i o ho u W K' h.below (fun e he hb hor => h.facts e.on (hall e he hb) ?_) fun v W' hT hc' => hK _ _ ?_
    · rcases hor with hor | hor
      · have := h.size
        simp [show ¬ eat e.on < listed.size by omega]
      · rw [hor]; exact hunf
    · rw [hput i o ho u v]
      refine ih _ _ _ (h.step hst hstab hbound hi ho hT hc') ?_
      have : (listed.setIfInBounds i true).toList.count false = listed.toList.count false - 1 := by
        rw [Array.toList_setIfInBounds, List.count_set (by simpa using hlt)]
        simp [hlt] at hunf
        simp [hunf]
      omega

theorem wp_region_inv {id : Nat} {a : Act} {w : World} (mk : (Nat → Value) → Act) (u0 : Nat → Value) (T : Nat → Value → World → Prop) (row : Nat → Bool) (eat : Nat → Nat) (par : Nat → Option Nat) (L : List Oper)
    (hm : P.follows .mixedOrders = true) (ha : a = mk u0) (hL : ops.toList = L)
    (hst : statOK ops row eat par = true)
    (hstab : ∀ j v W W' rw, T j v W → W.grownBy W' rw → (row j = true → v.ownBlock = none ∨ v.ownBlock ≠ rw) → (∀ k, rw = some k → w.heap.size ≤ k) → Below w.heap.size w W → T j v W')
    (hbound : ∀ j v W, row j = true → T j v W → ∀ k, v.ownBlock = some k → w.heap.size ≤ k ∧ k < W.heap.size)
    (hput : OpsOK (PutOK mk) 0 L)
    (hops : OpsOK (OpOK P ops Q mk T row eat par w) 0 L)
    (hend : ∀ u W, Below w.heap.size w W → (∀ i, i < ops.size → ops.size ≤ eat i → T i (u i) W) → Q .normal (mk u) W) :
    (Code.region id ops true).wp P Q a w := by
  subst ha hL
  have get : ∀ {F : Nat → Oper → Prop}, OpsOK F 0 ops.toList → ∀ i o, ops[i]? = some o → F i o := fun h i o ho => by
    have := h.get (i := i) (o := o) (by simpa using ho)
    rwa [Nat.zero_add] at this
  refine wp_region_any hm (inv_any hst hstab hbound (get hput) (get hops) hend ops.size _ u0 _ ?_ (by simp))
  refine ⟨?_, by simp, fun i h => ?_, fun i j _ _ _ h => ?_⟩
  · exact (Below.refl _ w).drew
  · exfalso; simp [Array.getElem?_replicate] at h; split at h <;> cases h
  · exfalso; simp [Array.getElem?_replicate] at h; split at h <;> cases h
end
end Go.Proofs.YtkkclkknpjapcaaDoor
/-! ### RF -/
namespace Go.Proofs.YtkkclkknpjapcaaDoor
open Go.RowKit
set_option linter.unusedVariables false
set_option linter.unusedSimpArgs false

def nth {α : Type} : List α → Nat → α → α
  | [], _, d => d
  | x :: _, 0, _ => x
  | _ :: l, n + 1, d => nth l n d
def Facts (base : Nat) (rows : List Nat) (vals : List Value) (bs : List (List UInt8)) (i : Nat) (v : Value) (W : World) : Prop :=
  match rows.contains i with
  | true => OB W base v (nth bs i [])
  | false => v = nth vals i undef
def eatOf (pars : List (Nat × Nat)) (p : Nat) : Nat := match pars.find? (·.1 == p) with
  | some x => x.2
  | none => 1000000
def parOf (pars : List (Nat × Nat)) (i : Nat) : Option Nat := (pars.find? (·.2 == i)).map (·.1)

theorem Facts.stab {base : Nat} {rows : List Nat} {vals : List Value} {bs : List (List UInt8)} {w : World} (hb : base = w.heap.size) :
    ∀ j v W W' rw, Facts base rows vals bs j v W → W.grownBy W' rw → (rows.contains j = true → v.ownBlock = none ∨ v.ownBlock ≠ rw) → (∀ k, rw = some k → w.heap.size ≤ k) → Below w.heap.size w W → Facts base rows vals bs j v W' := by
  intro j v W W' rw h hg hne _ _
  unfold Facts at *
  cases hr : rows.contains j with
  | true => rw [hr] at h hne; exact OB.other h hg (hne rfl)
  | false => rw [hr] at h; exact h
theorem Facts.bound {base : Nat} {rows : List Nat} {vals : List Value} {bs : List (List UInt8)} {w : World} (hb : base = w.heap.size) :
    ∀ j v W, rows.contains j = true → Facts base rows vals bs j v W → ∀ k, v.ownBlock = some k → w.heap.size ≤ k ∧ k < W.heap.size := by
  intro j v W hr h k hk
  unfold Facts at h
  rw [hr] at h
  subst hb
  exact World.ownsRow.lt h k hk

theorem wp_region_facts {P : Program} {ops : Array Oper} {Q : Exit → Act → World → Prop} {id : Nat} {a : Act} {w : World} (mk : (Nat → Value) → Act) (u0 : Nat → Value) (rows : List Nat) (pars : List (Nat × Nat)) (vals : List Value) (bs : List (List UInt8)) (L : List Oper)
    (hm : P.follows .mixedOrders = true) (ha : a = mk u0) (hL : ops.toList = L)
    (hst : statOK ops (fun i => rows.contains i) (eatOf pars) (parOf pars) = true)
    (hput : OpsOK (PutOK mk) 0 L)
    (hops : OpsOK (OpOK P ops Q mk (Facts w.heap.size rows vals bs) (fun i => rows.contains i) (eatOf pars) (parOf pars) w) 0 L)
    (hend : ∀ u W, Below w.heap.size w W → (∀ i, i < ops.size → ops.size ≤ eatOf pars i → Facts w.heap.size rows vals bs i (u i) W) → Q .normal (mk u) W) :
    (Code.region id ops true).wp P Q a w :=
  wp_region_inv mk u0 _ _ _ _ L hm ha hL hst (Facts.stab rfl) (Facts.bound rfl) hput hops hend

theorem dep_of {ops : Array Oper} {o : Oper} {T : Nat → Value → World → Prop} {eat : Nat → Nat} {u : Nat → Value} {W : World} {i : Nat}
    (hd : ∀ e ∈ o.after, Region.binds .any e = true → ops.size ≤ eat e.on ∨ eat e.on = i → T e.on (u e.on) W) (d : Nat)
    (h : (o.after.any fun e => Region.binds .any e && e.on == d) = true) (h2 : (decide (ops.size ≤ eat d) || eat d == i) = true) : T d (u d) W := by
  obtain ⟨e, he, hb⟩ := Array.any_eq_true'.1 h
  simp only [Bool.and_eq_true, beq_iff_eq] at hb
  obtain ⟨hb, rfl⟩ := hb
  exact hd e he hb (by simpa using h2)

/-- The slots of a frame, those that the region fills by letters. -/
def lay : List Value → List (Option Nat) → (Nat → Value) → List Value
  | [], _, _ => []
  | x :: l, [], u => x :: lay l [] u
  | x :: l, none :: s, u => x :: lay l s u
  | _ :: l, some i :: s, u => u i :: lay l s u
/-- What stood in the slots ahead of the region. -/
def was : List Value → List (Option Nat) → Nat → Value
  | [], _, _ => undef
  | _, [], _ => undef
  | _ :: l, none :: s, i => was l s i
  | x :: l, some k :: s, i => if k = i then x else was l s i

theorem wp_region_txt {P : Program} {ops : Array Oper} {Q : Exit → Act → World → Prop} {id : Nat} {T : List Value} {D : List Deferred} {w : World} (s : List (Option Nat)) (rows : List Nat) (pars : List (Nat × Nat)) (vals : List Value) (bs : List (List UInt8))
    (hm : P.follows .mixedOrders = true) (hs : lay T s (was T s) = T)
    (hst : statOK ops (fun i => rows.contains i) (eatOf pars) (parOf pars) = true)
    (hput : OpsOK (PutOK fun u => ⟨(lay T s u).toArray, D⟩) 0 ops.toList)
    (hops : OpsOK (OpOK P ops Q (fun u => ⟨(lay T s u).toArray, D⟩) (Facts w.heap.size rows vals bs) (fun i => rows.contains i) (eatOf pars) (parOf pars) w) 0 ops.toList)
    (hend : ∀ u W, Below w.heap.size w W → (∀ i, i < ops.size → ops.size ≤ eatOf pars i → Facts w.heap.size rows vals bs i (u i) W) → Q .normal ⟨(lay T s u).toArray, D⟩ W) :
    (Code.region id ops true).wp P Q ⟨T.toArray, D⟩ w :=
  wp_region_facts (fun u => ⟨(lay T s u).toArray, D⟩) (was T s) rows pars vals bs ops.toList hm (by rw [hs]) rfl hst hput hops hend

section
variable {P : Program} {ops : Array Oper} {Q : Exit → Act → World → Prop} {o : Oper} {a : Act} {w W : World} {K : Act → World → Prop} {u : Nat → Value} {rows : List Nat} {pars : List (Nat × Nat)} {vals : List Value} {bs : List (List UInt8)} {i : Nat}
theorem hk_val (hK : Hid (∀ v W', Facts w.heap.size rows vals bs i v W' → Change (fun i => rows.contains i) (parOf pars) i u W v W' → K (a.put o.dst v) W')) (hr : rows.contains i = false) (hp : parOf pars i = none) :
    Hid (∀ v W', v = nth vals i undef → Below W.heap.size W W' → K (a.put o.dst v) W') := fun v W' h1 h2 =>
  hK v W' (by unfold Facts; rw [hr]; exact h1) (by unfold Change; rw [hp]; exact ⟨h2, fun h => by rw [show (fun i => rows.contains i) i = rows.contains i from rfl, hr] at h; cases h⟩)
theorem hk_row (hB : Below w.heap.size w W) (hK : Hid (∀ v W', Facts w.heap.size rows vals bs i v W' → Change (fun i => rows.contains i) (parOf pars) i u W v W' → K (a.put o.dst v) W')) (hr : rows.contains i = true) (hp : parOf pars i = none) :
    Hid (∀ v W', OB W' W.heap.size v (nth bs i []) → Below W.heap.size W W' → K (a.put o.dst v) W') := fun v W' h1 h2 =>
  hK v W' (by unfold Facts; rw [hr]; exact OB.mono h1 (Below.size hB)) (by unfold Change; rw [hp]; exact ⟨h2, fun _ k hk => OB.base_ h1 k hk⟩)
theorem hk_par (hK : Hid (∀ v W', Facts w.heap.size rows vals bs i v W' → Change (fun i => rows.contains i) (parOf pars) i u W v W' → K (a.put o.dst v) W')) (hr : rows.contains i = true) (p : Nat) (hp : parOf pars i = some p) :
    Hid (∀ v W', OB W' w.heap.size v (nth bs i []) → W.grownBy W' (u p).ownBlock → AtRow W.heap.size (u p) v → K (a.put o.dst v) W') := fun v W' h1 h2 h3 =>
  hK v W' (by unfold Facts; rw [hr]; exact h1) (by unfold Change; rw [hp]; exact ⟨h2, h3⟩)
theorem fact_val {v : Value} (h : Facts w.heap.size rows vals bs i v W) (hr : rows.contains i = false) : v = nth vals i undef := by
  unfold Facts at h; rw [hr] at h; exact h
theorem fact_row {v : Value} (h : Facts w.heap.size rows vals bs i v W) (hr : rows.contains i = true) : OB W w.heap.size v (nth bs i []) := by
  unfold Facts at h; rw [hr] at h; exact h
end
end Go.Proofs.YtkkclkknpjapcaaDoor
