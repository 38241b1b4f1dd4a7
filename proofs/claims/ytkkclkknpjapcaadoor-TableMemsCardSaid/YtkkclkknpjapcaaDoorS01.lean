/- Shared texts, part S01: W. -/
import Derived.WalkKit
import Derived.KernelRfl
import Derived.WalkMore
import Derived.ScopeJumps
import Derived.Outline
import Derived.Lib.ConvBytes
import Derived.Lib.SlBytesConst
import Derived.Laws.BytesArg
import Derived.Laws.OwnMore
import Derived.Maps.AppendAt
import Derived.Deep.AppendLies
import Derived.Deep.Draws
import Derived.Deep.QuietTactic
import Derived.Deep.LoopGhost
import Derived.BigQuiet
import Derived.RegionTactic
import Derived.OwnWalk
/-! ### W -/
namespace Go.Proofs.YtkkclkknpjapcaaDoor
open Go.RowKit
set_option linter.unusedVariables false
set_option linter.unusedSimpArgs false

theorem hid {p : Prop} (h : p) : Hid p := h

/-! ## Labels -/
theorem wp_scope_label {P : Program} {a : Act} {w : World} {Q : Exit → Act → World → Prop} {c rest : Code} (l : Nat) (J : Act → World → Prop) (μ : Act → World → Nat) (hf : findLabel c l = some (.seq .skip rest))
    (pass : ∀ a w, J a w → rest.wp P (Exit.jump l (fun a' w' => J a' w' ∧ μ a' w' < μ a w) Q) a w)
    (first : (∀ a w, J a w → rest.wp P (Exit.jump l J Q) a w) → c.wp P (Exit.jump l J Q) a w) : (Code.scope c).wp P Q a w := by
  refine wp_scope_jumps l J μ hf (first fun a w hJ => wp_mono (pass a w hJ) ?_) fun a w hJ => wp_seq (wp_skip (pass a w hJ))
  intro e a' w' h
  cases e <;> simp_all [Exit.jump]
/-- What a jump back must hand on, behind a name that the walk does not open. -/
def Jumped (J : Nat → Act → World → Prop) (n : Nat) (a : Act) (w : World) : Prop := ∃ m, m < n ∧ J m a w
theorem Jumped.mk {J : Nat → Act → World → Prop} {n : Nat} {a : Act} {w : World} (m : Nat) (h : m < n) (hJ : J m a w) : Jumped J n a w := ⟨m, h, hJ⟩
/-- A label that is jumped back to: the relation bears a number that each jump lowers. -/
theorem wp_scope_ghost {P : Program} {a : Act} {w : World} {Q : Exit → Act → World → Prop} {c rest : Code} (l : Nat) (J : Nat → Act → World → Prop) (hf : findLabel c l = some (.seq .skip rest))
    (pass : ∀ n a w, J n a w → rest.wp P (Exit.jump l (Jumped J n) Q) a w)
    (first : (∀ n a w, J n a w → rest.wp P (Exit.jump l (fun a w => ∃ n, J n a w) Q) a w) → c.wp P (Exit.jump l (fun a w => ∃ n, J n a w) Q) a w) : (Code.scope c).wp P Q a w := by
  refine wp_scope_label l (fun a w => ∃ n, J n a w) (fun a w => leastOf (fun n => J n a w)) hf ?_ ?_
  · intro a w hJ
    refine wp_mono (pass _ a w (leastOf_spec hJ).1) ?_
    intro e a' w' h
    cases e with
    | goto l' =>
      obtain ⟨rfl, n', hlt, hJ'⟩ := h
      exact ⟨rfl, ⟨n', hJ'⟩, Nat.lt_of_le_of_lt ((leastOf_spec ⟨n', hJ'⟩).2 n' hJ') hlt⟩
    | _ => exact h
  · intro hp
    exact first fun n a w hJ => hp a w ⟨n, hJ⟩
theorem wp_label_k {P : Program} {a : Act} {w : World} {Q : Exit → Act → World → Prop} {l : Nat} {y : Code} {K : Act → World → Prop} (hK : ∀ a w, y.wp P Q a w → K a w) (h : y.wp P Q a w) : (Code.label l).wp P (Exit.then K Q) a w :=
  wp_label (hK a w h)
theorem wp_goto_k {P : Program} {a : Act} {w : World} {Q : Exit → Act → World → Prop} {l : Nat} {K : Act → World → Prop} {J : Act → World → Prop} (h : J a w) : (Code.goto l).wp P (Exit.then K (Exit.jump l J Q)) a w :=
  wp_goto ⟨rfl, h⟩

/-! ## Addresses, worlds -/
theorem block_of_add (a : Addr) (n : Nat) : (a.add n).block = a.block := by unfold Addr.add; split <;> rfl
theorem add_of_add (a : Addr) (i j : Nat) : (a.add i).add j = a.add (i + j) := by
  unfold Addr.add
  by_cases hi : i = 0 <;> by_cases hj : j = 0 <;> simp [hi, hj, Nat.add_assoc]
theorem add_plain (g o j : Nat) : (⟨g, o, none⟩ : Addr).add j = ⟨g, o + j, none⟩ := by unfold Addr.add; split <;> simp_all
theorem below_drewN {B : Nat} {w w' : World} (h : Below B w w') (n : Nat) : Below B w (w'.drewN n) := ⟨h.os, h.tape, h.output, h.size, h.block⟩
theorem below_then {w w1 w2 : World} (h : Below w.heap.size w w1) (k : Below w1.heap.size w1 w2) : Below w.heap.size w w2 := h.trans (k.mono h.size)
theorem below_alloc' {w W : World} (h : Below w.heap.size w W) (o : Obj) : Below w.heap.size w (W.alloc o) := h.alloc h.size o
theorem below_cell {w w' : World} (h : Below w.heap.size w w') {a : Addr} {v : Value} (hc : w.cell? a = some v) : w'.cell? a = some v := (h.cell (World.block_lt_of_cell? w a hc)).trans hc
theorem below_base {B : Nat} {w w' : World} (h : Below B w w') (k : B ≤ w.heap.size) : B ≤ w'.heap.size := Nat.le_trans k h.size

/-! ## Bytes -/
def bAt (xs : List UInt8) (j : Nat) : Nat := (xs.getD j 0).toNat
theorem bAt_lt (xs : List UInt8) (j : Nat) : bAt xs j < 256 := (xs.getD j 0).toNat_lt
theorem bAt_get {xs : List UInt8} {j : Nat} (h : j < xs.length) : bAt xs j = (xs[j]).toNat := by simp [bAt, h]
def bys (xs : List UInt8) : List Value := xs.map fun x => .int .u8 (x.toNat : Int)
theorem bys_length (xs : List UInt8) : (bys xs).length = xs.length := by simp [bys]
theorem bys_append (xs ys : List UInt8) : bys (xs ++ ys) = bys xs ++ bys ys := by simp [bys]
theorem bys_get (xs : List UInt8) (j : Nat) (h : j < xs.length) : (bys xs)[j]? = some (.int .u8 (bAt xs j : Int)) := by simp [bys, bAt, h]
theorem bys_one (xs : List UInt8) : ∀ u ∈ bys xs, u.oneCell' = true := by
  intro u hu
  simp only [bys, List.mem_map] at hu
  obtain ⟨x, _, rfl⟩ := hu
  rfl
/-- The slice of n bytes at A (nil let in) holds xs. -/
def RB (w : World) (A : Option Addr) (n : Nat) (xs : List UInt8) : Prop :=
  xs.length = n ∧ n ≤ 9223372036854775807 ∧ (0 < n → ∃ ad, A = some ad ∧ ∀ j, j < n → w.cell? (ad.add j) = some (.int .u8 (bAt xs j : Int)))
section
variable {w w' : World} {A : Option Addr} {n : Nat} {xs : List UInt8}
theorem RB.nil (w : World) : RB w none 0 [] := ⟨rfl, by omega, fun h => absurd h (by omega)⟩
theorem RB.len (h : RB w A n xs) : xs.length = n := h.1
theorem RB.max (h : RB w A n xs) : n ≤ 9223372036854775807 := h.2.1
theorem RB.at_ (h : RB w A n xs) {k : Nat} (hk : k < n) : ∃ ad, A = some ad ∧ w.cell? (ad.add k) = some (.int .u8 (bAt xs k : Int)) := by
  obtain ⟨ad, e, hc⟩ := h.2.2 (by omega)
  exact ⟨ad, e, hc k hk⟩
theorem RB.keep (h : RB w A n xs) (hk : ∀ ad : Addr, A = some ad → ∀ j, j < n → w.cell? (ad.add j) = some (.int .u8 (bAt xs j : Int)) → w'.cell? (ad.add j) = some (.int .u8 (bAt xs j : Int))) : RB w' A n xs :=
  ⟨h.1, h.2.1, fun hn => by
    obtain ⟨ad, e, hc⟩ := h.2.2 hn
    exact ⟨ad, e, fun j hj => hk ad e j hj (hc j hj)⟩⟩
theorem RB.below (h : RB w A n xs) (hb : Below w.heap.size w w') : RB w' A n xs := h.keep fun _ _ _ _ hc => below_cell hb hc
theorem RB.drew (h : RB w A n xs) : RB w.drew A n xs := h
theorem RB.drewN (h : RB w A n xs) (k : Nat) : RB (w.drewN k) A n xs := h
theorem RB.alloc (h : RB w A n xs) (o : Obj) : RB (w.alloc o) A n xs := h.below ((Below.refl _ _).alloc (Nat.le_refl _) o)
theorem RB_drew : RB w.drew A n xs ↔ RB w A n xs := Iff.rfl
theorem RB_drewN (k : Nat) : RB (w.drewN k) A n xs ↔ RB w A n xs := Iff.rfl
theorem RB.grown {row : Option Nat} (h : RB w A n xs) (hg : w.grownBy w' row) (hr : ∀ ad, A = some ad → some ad.block ≠ row) : RB w' A n xs :=
  h.keep fun ad e j _ hc => hg.cell hc (by rw [block_of_add]; exact hr ad e)
theorem RB.slice (h : RB w A n xs) {i j : Nat} (hi : i ≤ j) (hj : j ≤ n) {cap : Nat} (hc : n ≤ cap) : RB w (if cap = i then A else A.map (·.add i)) (j - i) ((xs.drop i).take (j - i)) := by
  have hl := h.1
  have hm := h.2.1
  refine ⟨by simp; omega, by omega, fun hn => ?_⟩
  obtain ⟨ad, rfl, hcell⟩ := h.2.2 (by omega)
  rw [if_neg (by omega)]
  refine ⟨ad.add i, rfl, fun k hk => ?_⟩
  rw [add_of_add, hcell (i + k) (by omega)]
  have : bAt ((xs.drop i).take (j - i)) k = bAt xs (i + k) := by simp [bAt, List.getD_eq_getElem?_getD, List.getElem?_take, hk, List.getElem?_drop]
  rw [this]
theorem RB.pre (h : RB w A n xs) {j : Nat} (hj : j ≤ n) : RB w A j (xs.take j) := by
  have hl := h.1
  have hm := h.2.1
  refine ⟨by simp; omega, by omega, fun hn => ?_⟩
  obtain ⟨ad, rfl, hcell⟩ := h.2.2 (by omega)
  refine ⟨ad, rfl, fun k hk => ?_⟩
  rw [hcell k (by omega)]
  have : bAt (xs.take j) k = bAt xs k := by simp [bAt, List.getD_eq_getElem?_getD, List.getElem?_take, hk]
  rw [this]
theorem RB.suf (h : RB w A n xs) {i : Nat} (hi : i ≤ n) {cap : Nat} (hc : n ≤ cap) : RB w (if cap = i then A else A.map (·.add i)) (n - i) (xs.drop i) := by
  have := h.slice (j := n) hi (Nat.le_refl _) hc
  have hl := h.1
  rwa [List.take_of_length_le (by simp; omega)] at this
end

theorem RB.blk {w : World} {g : Nat} {cs : Array Value} {e : TypeId} {fr : Nat × Nat} {xs : List UInt8} (h : w.heap[g]? = some (.cells cs e fr)) (hx : ∀ j, j < xs.length → cs[j]? = some (.int .u8 (bAt xs j : Int))) (hl : xs.length ≤ 9223372036854775807) : RB w (some ⟨g, 0, none⟩) xs.length xs :=
  ⟨rfl, hl, fun _ => ⟨_, rfl, fun j hj => by rw [add_plain, Nat.zero_add, cell_of_row w g j cs e fr h]; exact hx j hj⟩⟩
/-- A literal's block. -/
theorem RB.lit (w : World) (xs : List UInt8) (cs : Array Value) (e : TypeId) (fr : Nat × Nat) (hcs : cs = (bys xs).toArray) (hl : xs.length ≤ 9223372036854775807) : RB (w.alloc (.cells cs e fr)) (some ⟨w.heap.size, 0, none⟩) xs.length xs :=
  RB.blk (heap_alloc_new w _) (fun j hj => by rw [hcs]; simpa using bys_get xs j hj) hl

/-- An element of a list, behind a name that simp does not open. -/
def elt {α : Type} (d : α) (l : List α) (j : Nat) : α := l.getD j d
theorem elt_get {α : Type} (d : α) {l : List α} {j : Nat} (h : j < l.length) : elt d l j = l[j] := by simp [elt, h]
theorem take_succ_elt {α : Type} (d : α) {l : List α} {j : Nat} (h : j < l.length) : l.take (j + 1) = l.take j ++ [elt d l j] := by rw [List.take_succ_eq_append_getElem h, elt_get d h]
/-- The slice of n slices of bytes at A holds xss. -/
def RBs (w : World) (A : Option Addr) (n : Nat) (xss : List (List UInt8)) : Prop :=
  xss.length = n ∧ n ≤ 9223372036854775807 ∧ (0 < n → ∃ ad, A = some ad ∧ ∀ j, j < n → ∃ Aj nj cj, w.cell? (ad.add j) = some (.slice Aj nj cj) ∧ RB w Aj nj (elt [] xss j) ∧ nj ≤ cj)
section
variable {w w' : World} {A : Option Addr} {n : Nat} {xss : List (List UInt8)}
theorem RBs.nil (w : World) : RBs w none 0 [] := ⟨rfl, by omega, fun h => absurd h (by omega)⟩
theorem RBs.at_ (h : RBs w A n xss) {k : Nat} (hk : k < n) : ∃ ad, A = some ad ∧ ∃ Aj nj cj, w.cell? (ad.add k) = some (.slice Aj nj cj) ∧ RB w Aj nj (elt [] xss k) ∧ nj ≤ cj := by
  obtain ⟨ad, e, hc⟩ := h.2.2 (by omega)
  exact ⟨ad, e, hc k hk⟩
theorem RBs.below (h : RBs w A n xss) (hb : Below w.heap.size w w') : RBs w' A n xss :=
  ⟨h.1, h.2.1, fun hn => by
    obtain ⟨ad, e, hc⟩ := h.2.2 hn
    refine ⟨ad, e, fun j hj => ?_⟩
    obtain ⟨Aj, nj, cj, h1, h2, h3⟩ := hc j hj
    exact ⟨Aj, nj, cj, below_cell hb h1, h2.below hb, h3⟩⟩
end

/-! ## A row of bytes of the call's own -/
theorem RB.of_own {w : World} {base n c : Nat} {A : Option Addr} {e : TypeId} {xs : List UInt8} (h : w.ownsRow base e 1 (.slice A n c) n (bys xs)) : RB w A n xs := by
  have hl : xs.length = n := by have := h.1; rw [bys_length] at this; omega
  rcases Nat.eq_zero_or_pos n with h0 | h0
  · exact ⟨hl, by omega, fun hp => absurd hp (by omega)⟩
  · have hm : n ≤ 9223372036854775807 := by
      rcases h.2 with ⟨_, h1⟩ | ⟨g', cap', cur, he, _, _, h1, h2, _⟩
      · omega
      · simp only [maxLen] at h2
        omega
    obtain ⟨g, cap, he, _, _⟩ := h.form h0
    have hA : A = some ⟨g, 0, none⟩ := by injection he
    subst hA
    exact ⟨hl, hm, fun _ => ⟨_, rfl, fun j hj => h.cells (g := g) rfl j _ (bys_get _ _ (by omega))⟩⟩
/-- The shape of whatever is owned. -/
theorem own_slice {w : World} {base n : Nat} {e : TypeId} {size : Nat} {v : Value} {xs : List Value} (h : w.ownsRow base e size v n xs) : ∃ A c, v = .slice A n c := by
  rcases h.2 with ⟨rfl, rfl⟩ | ⟨g, cap, cur, rfl, _⟩
  · exact ⟨none, 0, rfl⟩
  · exact ⟨_, cap, rfl⟩
theorem own_cap {w : World} {base n : Nat} {e : TypeId} {size : Nat} {A : Option Addr} {c : Nat} {xs : List Value} (h : w.ownsRow base e size (.slice A n c) n xs) : n ≤ c := by
  rcases h.2 with ⟨h1, h2⟩ | ⟨g, cap, cur, he, _, _, h3, _⟩
  · omega
  · injection he with _ _ h4
    omega
theorem own_base {w : World} {base : Nat} {e : TypeId} {size n : Nat} {v : Value} {xs : List Value} (h : w.ownsRow base e size v n xs) (k : Nat) (hk : v.ownBlock = some k) : base ≤ k := (h.lt k hk).1
theorem own_below {w w1 : World} {base : Nat} {e : TypeId} {size n : Nat} {v : Value} {xs : List Value} (h : w.ownsRow base e size v n xs) (hb : Below w.heap.size w w1) : w1.ownsRow base e size v n xs :=
  h.kept (row := none) ⟨hb.os, hb.tape, hb.output, hb.size, fun i hi _ => hb.block i hi⟩ (by cases v.ownBlock <;> simp)
theorem own_mono {w : World} {base base' : Nat} {e : TypeId} {size n : Nat} {v : Value} {xs : List Value} (h : w.ownsRow base e size v n xs) (hb : base' ≤ base) : w.ownsRow base' e size v n xs := by
  refine ⟨h.1, ?_⟩
  rcases h.2 with h0 | ⟨g, cap, cur, e1, hg, r⟩
  · exact .inl h0
  · exact .inr ⟨g, cap, cur, e1, by omega, r⟩
theorem own_type_ne {w : World} {b b' : Nat} {e e' : TypeId} {s s' n n' : Nat} {v v' : Value} {xs xs' : List Value} (h : w.ownsRow b e s v n xs) (h' : w.ownsRow b' e' s' v' n' xs') (hne : e ≠ e') : v.ownBlock = none ∨ v.ownBlock ≠ v'.ownBlock := by
  rcases h.2 with ⟨rfl, _⟩ | ⟨g, cap, cur, rfl, _, hh, _⟩
  · exact .inl rfl
  · refine .inr fun hk => ?_
    rcases h'.2 with ⟨rfl, _⟩ | ⟨g', cap', cur', rfl, _, hh', _⟩
    · simp [Value.ownBlock] at hk
    · have : g = g' := by simpa [Value.ownBlock] using hk
      subst this
      rw [hh] at hh'
      injection hh' with hh'
      injection hh' with _ ht
      exact hne ht

/-! ## append -/
def Reads (w : World) (size : Nat) (A : Option Addr) (n : Nat) (xs : List Value) : Prop :=
  xs.length = n * size ∧ (0 < n → ∃ ad, A = some ad ∧ ∀ j u, xs[j]? = some u → w.cell? (ad.add j) = some u)
theorem RB.reads {w : World} {A : Option Addr} {n : Nat} {xs : List UInt8} (h : RB w A n xs) : Reads w 1 A n (bys xs) := by
  refine ⟨by rw [bys_length, h.1]; omega, fun hn => ?_⟩
  obtain ⟨ad, e, hc⟩ := h.2.2 hn
  refine ⟨ad, e, fun j u hu => ?_⟩
  have hj : j < xs.length := by
    rcases Nat.lt_or_ge j xs.length with h1 | h1
    · exact h1
    · rw [List.getElem?_eq_none (by rw [bys_length]; exact h1)] at hu; cases hu
  rw [bys_get _ _ hj] at hu
  rw [hc j (by have := h.1; omega), ← hu]
theorem Reads.block {w : World} {cs : Array Value} {t : TypeId} {g m size : Nat} (hb : w.heap[g]? = some (.cells cs t (0, 0))) (hl : cs.size = m * size) : Reads w size (some ⟨g, 0, none⟩) m cs.toList :=
  ⟨by simpa using hl, fun _ => ⟨_, rfl, fun j u hu => by rw [add_plain, Nat.zero_add, cell_of_row w g j cs t (0, 0) hb]; simpa using hu⟩⟩
section
variable {P : Program} (w : World)
theorem run_append_of_nil (base : Nat) (t ty e : TypeId) (i : TypeInfo) (size : Nat) (ht : P.underlying t = some (.slice e)) (hi : P.info? e = some i)
    (v : Value) (n : Nat) (xs : List Value) (hown : w.ownsRow base e size v n xs) (c : Nat) : (Builtin.append_ #[t, t] ty #[v, .slice none 0 c]).run P w = .ok v w := by
  rcases hown.2 with ⟨rfl, rfl⟩ | ⟨g, cap, cur, rfl, _, _, hnc, _⟩
  · simp [Builtin.append_, run_underlying ht, sizeOf, typeInfo, hi, Builtin.lenOf, Builtin.firstCells]
  · simp [Builtin.append_, run_underlying ht, sizeOf, typeInfo, hi, Builtin.lenOf, Builtin.firstCells, hnc, storeCells]
theorem run_append_any (base : Nat) (t ty e : TypeId) (z : Value) (size bytes : Nat) (ht : P.underlying t = some (.slice e)) (hinfo : (P.info? e).map (fun i => (i.zero, i.size, i.bytes)) = some (some z, size, bytes)) (hzs : z.cells.size = size) (hsz : 0 < size)
    (v : Value) (n : Nat) (xs : List Value) (hown : w.ownsRow base e size v n xs)
    (A : Option Addr) (m c : Nat) (news : List Value) (hr : Reads w size A m news) (h1 : ∀ u ∈ news, u.oneCell' = true)
    (h63 : n + m ≤ maxLen) (hbytes : (n + m) * bytes ≤ 140737488355328) (hbase : base ≤ w.heap.size) :
    ∃ v' w', (Builtin.append_ #[t, t] ty #[v, .slice A m c]).run P w = .ok v' w' ∧ w'.ownsRow base e size v' (n + m) (xs ++ news) ∧ w.grownBy w' v.ownBlock ∧
      (v'.ownBlock = v.ownBlock ∨ v'.ownBlock = some w.heap.size) := by
  obtain ⟨i, hi, hz, hsize, hby⟩ := info_parts hinfo
  rcases A with _ | ad
  · have hm : m = 0 := by
      rcases Nat.eq_zero_or_pos m with h0 | h0
      · exact h0
      · obtain ⟨ad, h, _⟩ := hr.2 h0
        cases h
    subst hm
    have hn : news = [] := List.eq_nil_of_length_eq_zero (by simpa using hr.1)
    subst hn
    exact ⟨v, w, run_append_of_nil w base t ty e i size ht hi v n xs hown c, by simpa using hown, ⟨rfl, rfl, rfl, Nat.le_refl _, fun _ _ _ => rfl⟩, .inl rfl⟩
  · have hcells : ∀ j u, news[j]? = some u → w.cell? (ad.add j) = some u := by
      intro j u hu
      rcases Nat.eq_zero_or_pos m with h0 | h0
      · subst h0
        have hn : news = [] := List.eq_nil_of_length_eq_zero (by simpa using hr.1)
        subst hn
        simp at hu
      · obtain ⟨ad', h, hc⟩ := hr.2 h0
        injection h with h
        subst h
        exact hc j u hu
    obtain ⟨v', w', hrun, h2, h3, _, h5⟩ := run_append_own_at (P := P) w base t ty e i z size bytes ht hi hz hsize hby hzs hsz v n xs hown ad m c news hr.1 hcells h1 h63 hbytes hbase
    exact ⟨v', w', hrun, h2, h3, h5⟩
theorem wp_append_any {o : Oper} {a : Act} {K : Act → World → Prop} {Q : Exit → Act → World → Prop} (s x : Operand) (t : TypeId)
    (ho : o.op = .call { callee := .builtin .append, args := #[s, x], argTypes := #[t, t] })
    (base : Nat) (e : TypeId) (z : Value) (size bytes : Nat) (ht : P.underlying t = some (.slice e)) (hinfo : (P.info? e).map (fun i => (i.zero, i.size, i.bytes)) = some (some z, size, bytes)) (hzs : z.cells.size = size) (hsz : 0 < size)
    (v : Value) (n : Nat) (xs : List Value) (hs : a.eval s = v) (hown : w.ownsRow base e size v n xs)
    (A : Option Addr) (m c : Nat) (news : List Value) (hx : a.eval x = .slice A m c) (hr : Reads w size A m news) (h1 : ∀ u ∈ news, u.oneCell' = true)
    (h63 : n + m ≤ maxLen) (hbytes : (n + m) * bytes ≤ 140737488355328) (hbase : base ≤ w.heap.size)
    (h : ∀ v' w', w'.ownsRow base e size v' (n + m) (xs ++ news) → w.grownBy w' v.ownBlock → (v'.ownBlock = v.ownBlock ∨ v'.ownBlock = some w.heap.size) → K (a.put o.dst v') w') : o.wp P a w K Q := by
  obtain ⟨v', w', hrun, h2, h3, h4⟩ := run_append_any (P := P) w base t o.type e z size bytes ht hinfo hzs hsz v n xs hown A m c news hr h1 h63 hbytes hbase
  unfold Oper.wp execOp
  simp only [ho, resolve, invoke, builtin, Sem.run_bind, Sem.run_pure, Result.andThen_ok, List.map_toArray, List.map_cons, List.map_nil, hs, hx, hrun]
  exact h v' w' h2 h3 h4
theorem wpList_append_any {ops : Array Oper} {rest : List Oper} {o : Oper} {a : Act} {Q : Exit → Act → World → Prop} (hgd : o.guard = none) (s x : Operand) (t : TypeId)
    (ho : o.op = .call { callee := .builtin .append, args := #[s, x], argTypes := #[t, t] })
    (base : Nat) (e : TypeId) (z : Value) (size bytes : Nat) (ht : P.underlying t = some (.slice e)) (hinfo : (P.info? e).map (fun i => (i.zero, i.size, i.bytes)) = some (some z, size, bytes)) (hzs : z.cells.size = size) (hsz : 0 < size)
    (v : Value) (n : Nat) (xs : List Value) (hs : a.eval s = v) (hown : w.ownsRow base e size v n xs)
    (A : Option Addr) (m c : Nat) (news : List Value) (hx : a.eval x = .slice A m c) (hr : Reads w size A m news) (h1 : ∀ u ∈ news, u.oneCell' = true)
    (h63 : n + m ≤ maxLen) (hbytes : (n + m) * bytes ≤ 140737488355328) (hbase : base ≤ w.heap.size)
    (h : ∀ v' w', w'.ownsRow base e size v' (n + m) (xs ++ news) → w.grownBy w' v.ownBlock → (v'.ownBlock = v.ownBlock ∨ v'.ownBlock = some w.heap.size) → wpList P ops Q rest (a.put o.dst v') w') : wpList P ops Q (o :: rest) a w :=
  wpList_plain hgd fun _ hK => wp_append_any w s x t ho base e z size bytes ht hinfo hzs hsz v n xs hs hown A m c news hx hr h1 h63 hbytes hbase fun v' w' h2 h3 h4 => hK _ _ (h v' w' h2 h3 h4)
end

theorem step_append_any {P : Program} (w : World) {ops : Array Oper} {o : Oper} {a : Act} {K : Act → World → Prop} {Q : Exit → Act → World → Prop} {E : Prop} {g : Option (Nat × Bool)} (hgd : o.guard = g) (hwant : Region.wanted o (yielded ops a.tmps) = true) (s x : Operand) (t : TypeId)
    (ho : o.op = .call { callee := .builtin .append, args := #[s, x], argTypes := #[t, t] })
    (base : Nat) (e : TypeId) (z : Value) (size bytes : Nat) (ht : P.underlying t = some (.slice e)) (hinfo : (P.info? e).map (fun i => (i.zero, i.size, i.bytes)) = some (some z, size, bytes)) (hzs : z.cells.size = size) (hsz : 0 < size)
    (v : Value) (n : Nat) (xs : List Value) (hs : a.eval s = v) (hown : w.ownsRow base e size v n xs)
    (A : Option Addr) (m c : Nat) (news : List Value) (hx : a.eval x = .slice A m c) (hr : Reads w size A m news) (h1 : ∀ u ∈ news, u.oneCell' = true)
    (h63 : n + m ≤ maxLen) (hbytes : (n + m) * bytes ≤ 140737488355328) (hbase : base ≤ w.heap.size)
    (h : ∀ v' w', w'.ownsRow base e size v' (n + m) (xs ++ news) → w.grownBy w' v.ownBlock → (v'.ownBlock = v.ownBlock ∨ v'.ownBlock = some w.heap.size) → K (a.put o.dst v') w') :
    if Region.wanted o (yielded ops a.tmps) = true then Oper.wp P o a w K Q else E := by
  rw [if_pos hwant]
  exact wp_append_any w s x t ho base e z size bytes ht hinfo hzs hsz v n xs hs hown A m c news hx hr h1 h63 hbytes hbase h

theorem RB.lit' (w : World) (g : Nat) (xs : List UInt8) (cs : Array Value) (e : TypeId) (fr : Nat × Nat) (n : Nat) (hg : g = w.heap.size) (hcs : cs = (bys xs).toArray) (hn : n = xs.length) (hl : xs.length ≤ 9223372036854775807) : RB (w.alloc (.cells cs e fr)) (some ⟨g, 0, none⟩) n xs := by
  subst hg hn
  exact RB.lit w xs cs e fr hcs hl
theorem RB.form {w : World} {A : Option Addr} {n : Nat} {xs : List UInt8} (h : RB w A n xs) (hn : 0 < n) : ∃ b o, A = some ⟨b, o, none⟩ ∧ ∀ j, j < n → w.cell? ⟨b, o + j, none⟩ = some (.int .u8 (bAt xs j : Int)) := by
  obtain ⟨ad, rfl, hc⟩ := h.2.2 hn
  have hs : ad.spot = none := by simpa [Addr.add] using World.cell?_spot (hc 0 hn)
  obtain ⟨b, o, s⟩ := ad
  obtain rfl : s = none := hs
  exact ⟨b, o, rfl, fun j hj => by rw [← add_plain]; exact hc j hj⟩

/-! ## Strings out of bytes -/
def bstr (xs : List UInt8) : ByteArray := ⟨xs.toArray⟩
theorem bstr_inj {xs ys : List UInt8} : bstr xs = bstr ys ↔ xs = ys := by
  constructor
  · intro h
    have := congrArg (fun s : ByteArray => s.data.toList) h
    simpa [bstr] using this
  · intro h
    rw [h]
theorem spot_of {w : World} {ad : Addr} {v : Value} (h : w.cell? (ad.add 0) = some v) : ad.spot = none := by
  simpa [Addr.add] using World.cell?_spot h
theorem run_bstr {P : Program} {w : World} {src dst e : TypeId} (hs : P.underlying src = some (.slice e)) (he : P.underlying e = some (.int .u8)) (hd : P.underlying dst = some .string) {A : Option Addr} {n : Nat} {xs : List UInt8} (h : RB w A n xs) (c : Nat) :
    (convert src dst (.slice A n c)).run P w = .ok (.string (bstr xs)) w := by
  have hl := h.1
  rcases Nat.eq_zero_or_pos n with h0 | h0
  · subst h0
    obtain rfl : xs = [] := List.eq_nil_of_length_eq_zero hl
    rcases A with _ | ad
    · exact run_convert_bytes_nil w src e hs he 0 c dst hd
    · rw [run_convert_bytes_string w src dst e (some ad) 0 c hs he hd]
      exact run_bytesToString (P := P) w ad 0 c [] (by simp [loadCells, loadCellsFrom])
  · obtain ⟨ad, rfl, hc⟩ := h.2.2 h0
    obtain rfl0 := spot_of (hc 0 h0)
    obtain ⟨b, o, s⟩ := ad
    obtain rfl : s = none := rfl0
    have hr := run_convert_bytes_arg w src e hs he b o n c (xs.map fun x => (x.toNat : Int)) (by simpa using hl) (fun i hi => by
      have := hc i hi
      rw [add_plain] at this
      rw [this]
      have hx : i < xs.length := by omega
      simp [bAt, hx]) dst hd
    have e1 : strOfNums (xs.map fun x => (x.toNat : Int)) = bstr xs := by
      simp only [strOfNums, bstr]
      congr 1
      simp [Function.comp_def]
    rw [e1] at hr
    exact hr
end Go.Proofs.YtkkclkknpjapcaaDoor
