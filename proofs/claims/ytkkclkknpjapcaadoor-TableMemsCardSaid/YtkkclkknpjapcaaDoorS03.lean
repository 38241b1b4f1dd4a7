/- Shared texts, part S03: Blk, O, MmM, EnB. -/
import Derived.Laws.ResultCell
import Derived.ProofKit
import Derived.OpenShut
import Derived.ShutString
import Derived.ChangeOld
import Derived.Below
import Derived.SizedLaws
import Derived.ChangeSlices
import Derived.Deep.Slices
import Derived.Test.YtkkclkknpjapcaaDoorS02
import Derived.Test.YtkkclkknpjapcaaDoorS01
/-! ### Blk -/
namespace Go.Proofs.YtkkclkknpjapcaaDoor
open Go.RowKit
set_option linter.unusedVariables false
set_option linter.unusedSimpArgs false

theorem box_at {w : World} {b : Nat} {cs : Array Value} {e : TypeId} {fr : Nat × Nat} (h : w.heap[b]? = some (.cells cs e fr)) (i : Nat) (v : Value) (hv : cs[i]? = some v) : w.cell? ⟨b, i, none⟩ = some v := (cell_of_row _ _ i cs e fr h).trans hv
theorem blk_below {w w' : World} {b : Nat} {o : Obj} (hb : Below w.heap.size w w') (h : w.heap[b]? = some o) : w'.heap[b]? = some o := blk_grown' (below_grown hb none) h (by simp)
theorem blk_ne {w : World} {b b' : Nat} {cs cs' : Array Value} {T T' : TypeId} {fr fr' : Nat × Nat} (h : w.heap[b]? = some (.cells cs T fr)) (h' : w.heap[b']? = some (.cells cs' T' fr')) (hT : T ≠ T') : b ≠ b' := by
  intro e
  rw [e, h'] at h
  injection h with h
  injection h with _ h _
  exact hT h.symm
theorem blk_lt {w : World} {b : Nat} {o : Obj} (h : w.heap[b]? = some o) : b < w.heap.size := by
  rcases Nat.lt_or_ge b w.heap.size with h1 | h1
  · exact h1
  · rw [Array.getElem?_eq_none h1] at h; cases h
theorem grown_trans {w w1 w2 : World} {r : Option Nat} (h : w.grownBy w1 r) (k : w1.grownBy w2 r) : w.grownBy w2 r :=
  ⟨k.os.trans h.os, k.tape.trans h.tape, k.output.trans h.output, Nat.le_trans h.size k.size, fun i hi hne => (k.block i (Nat.lt_of_lt_of_le hi h.size) hne).trans (h.block i hi hne)⟩
theorem results_row_tmp {P : Program} {fn : Func} {p u : Tmp} {ty : TypeId} (h : fn.results = #[.cell p ty, .tmp u]) (tmps : Array Value) (w : World) (g : Nat) (t : TypeId) (cs : Array Value) (fr : Nat × Nat) (d : TypeDesc)
    (hp : tmps.getD p undef = .pointer (some ⟨g, 0, none⟩)) (hg : w.heap[g]? = some (.cells cs t fr))
    (hu : P.underlying ty = some d) (hd : (match d with | .struct _ | .array _ _ => true | _ => false) = true) (hi : (P.info? ty).map (·.size) = some cs.size) (x : Value) (hx : tmps.getD u undef = x) :
    (results fn tmps).run P w = .ok (.tuple #[.agg cs, x]) w := by
  rw [results_cell_tmp h, hp, hx]
  simp [asAddr, run_loadVar_row w g t ty cs fr d hg hu hd hi, Result.andThen]
theorem wrap_u64_nat (a : Nat) (h : a < 18446744073709551616) : IntKind.u64.wrap (a : Int) = a := by rw [IntKind.wrap_u64]; omega
theorem blk_grown {w w' : World} {row : Option Nat} {b : Nat} {o : Obj} (hg : w.grownBy w' row) (h : w.heap[b]? = some o) (hne : row ≠ some b) : w'.heap[b]? = some o := blk_grown' hg h hne
theorem below_of_none {w w1 : World} (h : w.grownBy w1 (Value.slice none 0 0).ownBlock) : Below w.heap.size w w1 := ⟨h.os, h.tape, h.output, h.size, fun k hk => h.block k hk (by intro e; cases e)⟩
theorem own_key {w W : World} {v : Value} {xs ys : List UInt8} {A : Option Addr} {n : Nat} (hown : OB W w.heap.size v xs) (h : RB w A n ys) : 0 < n → ∀ ad, A = some ad → v.ownBlock ≠ some ad.block := by
  intro hn ad e hv
  obtain ⟨ad', e', hc⟩ := h.at_ hn
  rw [e] at e'
  obtain rfl := Option.some.inj e'
  have h1 := World.block_lt_of_cell? w _ hc
  rw [block_of_add] at h1
  have h2 := OB.base_ hown _ hv
  omega
theorem heap_drew {w : World} {b : Nat} {o : Obj} (h : w.heap[b]? = some o) : w.drew.heap[b]? = some o := h
end Go.Proofs.YtkkclkknpjapcaaDoor
/-! ### O -/
namespace Go.Proofs.YtkkclkknpjapcaaDoor
open Go.RowKit Go.ChangeShapes Go.WideShapes
set_option linter.unusedVariables false
set_option linter.unusedSimpArgs false

theorem UInt8.ofNat_back {z : Int} (h0 : 0 ≤ z) (h1 : z < 256) : ((UInt8.ofNat z.toNat).toNat : Int) = z := by
  rw [UInt8.toNat_ofNat']
  omega
theorem wf_u8 {z : Int} (h : (Lit.int .u8 z).wf = true) : 0 ≤ z ∧ z < 256 := by
  have := h
  simp [Lit.wf] at this
  have m : IntKind.u8.min = 0 := rfl
  have M : IntKind.u8.max = 255 := rfl
  omega
theorem wf_u32 {z : Int} (h : (Lit.int .u32 z).wf = true) : 0 ≤ z ∧ z < 4294967296 := by
  have := h
  simp [Lit.wf] at this
  have m : IntKind.u32.min = 0 := rfl
  have M : IntKind.u32.max = 4294967295 := rfl
  omega
theorem wf_u64 {z : Int} (h : (Lit.int .u64 z).wf = true) : 0 ≤ z ∧ z < 18446744073709551616 := by
  have := h
  simp [Lit.wf] at this
  have m : IntKind.u64.min = 0 := rfl
  have M : IntKind.u64.max = 18446744073709551615 := rfl
  omega
theorem wf_i64 {z : Int} (h : (Lit.int .i64 z).wf = true) : -9223372036854775808 ≤ z ∧ z ≤ 9223372036854775807 := by
  have := h
  simp [Lit.wf] at this
  have m : IntKind.i64.min = -9223372036854775808 := rfl
  have M : IntKind.i64.max = 9223372036854775807 := rfl
  omega
/-- A slice of bytes that came in reads as a list of bytes. -/
theorem RB_of_trod {H : Type} {enc : TypeId × Value → H} {P : Program} {W : World} {base : Nat} {spare : Nat → Bool} {held : Bool} {t e : TypeId} {a : Option Addr} {len cap : Nat} {d : DataW H} {ps : List MemPlace}
    (hu : P.underlying t = some (.slice e)) (he : P.underlying e = some (.int .u8)) (hc : P.cellsOf e = 1) (h : DataW.Trod enc P W base spare held t (.slice a len cap) d ps) : ∃ xs, RB W a len xs ∧ len ≤ cap := by
  obtain ⟨fuel, hf⟩ := h
  rcases open_ints hu he hc hf with ⟨hcs, _⟩ | ⟨x, l, c, zs, hcs, _, hl, hm, hz, _, hcell, hwz⟩
  · simp [Value.cells] at hcs
    obtain ⟨rfl, rfl, rfl⟩ := hcs
    exact ⟨[], RB.nil W, Nat.le_refl _⟩
  · simp [Value.cells] at hcs
    obtain ⟨rfl, rfl, rfl⟩ := hcs
    have hl2 : len ≤ zs.length := by
      rw [hz]
      split
      · exact hl
      · exact Nat.le_refl _
    refine ⟨(zs.take len).map fun z => UInt8.ofNat z.toNat, ⟨by simp; omega, by simp only [maxLen] at hm; omega, fun _ => ⟨_, rfl, fun j hj => ?_⟩⟩, hl⟩
    rw [hcell j (by omega)]
    have hj2 : j < zs.length := by omega
    have hw := wf_u8 (hwz (zs[j]) (List.getElem_mem _))
    have hb := UInt8.ofNat_back hw.1 hw.2
    simp [bAt, List.getElem?_take, hj, hj2] at hb ⊢
    exact hb.symm
/-- .. and a slice of slices of bytes as a list of lists. -/
theorem RBs_of_trod {H : Type} {enc : TypeId × Value → H} {P : Program} {W : World} {base : Nat} {spare : Nat → Bool} {held : Bool} {t t1 e : TypeId} {a : Option Addr} {len cap : Nat} {d : DataW H} {ps : List MemPlace}
    (hu : P.underlying t = some (.slice t1)) (hu1 : P.underlying t1 = some (.slice e)) (he : P.underlying e = some (.int .u8)) (hc : P.cellsOf e = 1) (hc1 : P.cellsOf t1 = 1) (h : DataW.Trod enc P W base spare held t (.slice a len cap) d ps) : ∃ xss, RBs W a len xss ∧ len ≤ cap := by
  obtain ⟨fuel, hf⟩ := h
  rcases Go.Deep.open_slice1 hu hc1 hf with ⟨hcs, _⟩ | ⟨x, l, c, m, n, V, D, Pl, hcs, _, hl, hm, hmm, _, hcell⟩
  · simp [Value.cells] at hcs
    obtain ⟨rfl, rfl, rfl⟩ := hcs
    exact ⟨[], RBs.nil W, Nat.le_refl _⟩
  · simp [Value.cells] at hcs
    obtain ⟨rfl, rfl, rfl⟩ := hcs
    have hl2 : len ≤ m := by
      rw [hmm]
      split
      · exact hl
      · exact Nat.le_refl _
    have each : ∀ j, ∃ ys : List UInt8, j < len → ∃ Aj nj cj, V j = .slice Aj nj cj ∧ RB W Aj nj ys ∧ nj ≤ cj := by
      intro j
      by_cases hj : j < len
      · obtain ⟨h1, h2⟩ := hcell j (by omega)
        have hform : ∃ Aj nj cj, V j = .slice Aj nj cj := by
          rcases DataW.trod_slice hu1 h2 with ⟨h0, _⟩ | ⟨_, _, _, _, _, _, _, h0, _⟩
          · exact ⟨none, 0, 0, by simpa using h0⟩
          · exact ⟨_, _, _, by simpa using h0⟩
        obtain ⟨Aj, nj, cj, hV⟩ := hform
        rw [hV] at h2
        obtain ⟨ys, h3, h4⟩ := RB_of_trod (d := D j) (ps := Pl j) hu1 he hc ⟨n, by simpa [Value.cells] using h2⟩
        exact ⟨ys, fun _ => ⟨Aj, nj, cj, hV, h3, h4⟩⟩
      · exact ⟨[], fun h => absurd h hj⟩
    obtain ⟨F, hF⟩ := Classical.axiomOfChoice each
    refine ⟨(List.range len).map F, ⟨by simp, by simp only [maxLen] at hm; omega, fun _ => ⟨_, rfl, fun j hj => ?_⟩⟩, hl⟩
    obtain ⟨Aj, nj, cj, h1, h2, h3⟩ := hF j hj
    refine ⟨Aj, nj, cj, by rw [← h1]; exact (hcell j (by omega)).1, ?_, h3⟩
    simpa [elt, hj] using h2
/-- A row's slice of bytes is no longer than its weight allows. -/
theorem sized_bytes {H : Type} {enc : TypeId × Value → H} {P : Program} {W : World} {base : Nat} {spare : Nat → Bool} {held : Bool} {t e : TypeId} {a : Option Addr} {len cap : Nat} {d : DataW H} {ps : List MemPlace} {ts : List TypeId} {ds : List (DataW H)} {j : Nat}
    (hsz : (DataW.weightsEach P ts ds).all (· ≤ reachBytes) = true) (ht : ts[j]? = some t) (hd : ds[j]? = some d) (hu : P.underlying t = some (.slice e)) (he : P.underlying e = some (.int .u8)) (hc : P.cellsOf e = 1) (hB : P.bytesOf e = 1)
    (h : DataW.Trod enc P W base spare held t (.slice a len cap) d ps) : len ≤ 140737488351232 := by
  obtain ⟨fuel, hf⟩ := h
  rcases open_ints hu he hc hf with ⟨hcs, _⟩ | ⟨x, l, c, zs, hcs, _, hl, _, hz, hx, _, _⟩
  · simp [Value.cells] at hcs
    obtain ⟨rfl, rfl, rfl⟩ := hcs
    simp
  · simp [Value.cells] at hcs
    obtain ⟨rfl, rfl, rfl⟩ := hcs
    obtain ⟨hx, _⟩ := Prod.mk.inj hx
    subst hx
    have z := sized_slice hsz ht hd hu
    rw [hB] at z
    have hl2 : len ≤ zs.length := by
      rw [hz]
      split
      · exact hl
      · exact Nat.le_refl _
    have h1 : (lits (H := H) .u8 (zs.take len)).length + (lits (H := H) .u8 (zs.drop len)).length = zs.length := by
      simp [lits]
      omega
    rw [h1] at z
    have : (140737488351232 : Nat) = reachBytes := by decide
    omega
end Go.Proofs.YtkkclkknpjapcaaDoor
/-! ### MmM -/
namespace Go.Proofs.YtkkclkknpjapcaaDoor
open Go.RowKit
set_option linter.unusedVariables false
set_option linter.unusedSimpArgs false

/-- An entry: its key, its number, whether it takes away, till when, its value. -/
def EntR : Type := List UInt8 × Int × Bool × Int × List UInt8
def eKey (e : EntR) : List UInt8 := e.1
def eSeq (e : EntR) : Int := e.2.1
def eGone (e : EntR) : Bool := e.2.2.1
def eTil (e : EntR) : Int := e.2.2.2.1
def eVal (e : EntR) : List UInt8 := e.2.2.2.2
def mkEnt (k : List UInt8) (s : Int) (g : Bool) (t : Int) (v : List UInt8) : EntR := (k, s, g, t, v)
def noEnt : EntR := mkEnt [] 0 false 0 []
def mayN (nk : Nat) (s : Int) (g : Bool) (u : Int) (nv : Nat) : Bool :=
  decide (1 ≤ nk ∧ nk ≤ 512 ∧ nv ≤ 2048 ∧ 1 ≤ s ∧ s ≤ 4611686018427387904 ∧ 0 ≤ u ∧ u ≤ 4611686018427387904 ∧ (g = false ∨ (u = 0 ∧ nv = 0)))
def mayE (e : EntR) : Bool := mayN (eKey e).length (eSeq e) (eGone e) (eTil e) (eVal e).length
theorem ret_bool {a b : Bool} (h : a = b) : Ending.returned (.bool a) = .returned (.bool b) := by rw [h]
set_option maxHeartbeats 16000000 in
set_option maxRecDepth 100000 in
theorem may_any (Ak : Option Addr) (nk ck : Nat) (s : Int) (g : Bool) (u : Int) (Av : Option Addr) (nv cv : Nat) (w : World) (hk : nk ≤ 9223372036854775807) (hv : nv ≤ 9223372036854775807) :
    Calls Tryd.prog 22 #[.agg #[.slice Ak nk ck, .int .i64 s, .bool g, .int .i64 u, .slice Av nv cv]] w fun e w' => e = .returned (.bool (mayN nk s g u nv)) ∧ Below w.heap.size w w' := by
  cases g
  all_goals
    go_enter Tryd.func22, Tryd.ntmps22
    go_wp2
    all_goals
      go_ret
      refine ⟨ret_bool ?_, below_alloc' (Below.refl _ _) _⟩
      try simp only [beq_iff_eq, beq_eq_false_iff_ne] at *
      unfold mayN
      first
      | rfl
      | (rw [eq_comm, decide_eq_false_iff_not]; simp; omega)
      | (rw [eq_comm, decide_eq_true_iff]; simp; omega)
      | (rw [decide_eq_decide]; simp; omega)
      | (rw [Bool.eq_iff_iff]; simp; omega)
      | (trace_state; simp; omega)
set_option maxHeartbeats 16000000 in
set_option maxRecDepth 100000 in
theorem refmay_any (Ak : Option Addr) (nk ck : Nat) (s : Int) (g : Bool) (u : Int) (Av : Option Addr) (nv cv : Nat) (w : World) (hk : nk ≤ 9223372036854775807) (hv : nv ≤ 9223372036854775807) :
    Calls Tryd.prog 18 #[.agg #[.slice Ak nk ck, .int .i64 s, .bool g, .int .i64 u, .slice Av nv cv]] w fun e w' => e = .returned (.bool (mayN nk s g u nv)) ∧ Below w.heap.size w w' := by
  cases g
  all_goals
    go_enter Tryd.func18, Tryd.ntmps18
    go_wp2
    all_goals
      go_ret
      refine ⟨ret_bool ?_, below_alloc' (Below.refl _ _) _⟩
      try simp only [beq_iff_eq, beq_eq_false_iff_ne] at *
      unfold mayN
      first
      | rfl
      | (rw [eq_comm, decide_eq_false_iff_not]; simp; omega)
      | (rw [eq_comm, decide_eq_true_iff]; simp; omega)
      | (rw [decide_eq_decide]; simp; omega)
      | (rw [Bool.eq_iff_iff]; simp; omega)
      | (trace_state; simp; omega)
/-- Is an entry ahead of a key and a number? -/
def aheadK (e : EntR) (key : List UInt8) (s : Int) : Bool := decide (cmpB (eKey e) key < 0 ∨ (cmpB (eKey e) key = 0 ∧ s < eSeq e))
set_option maxHeartbeats 8000000 in
theorem ahead_any (Ak : Option Addr) (nk ck : Nat) (Av : Option Addr) (nv cv : Nat) (e : EntR) (A : Option Addr) (n c : Nat) (key : List UInt8) (s : Int) (w : World) (hk : RB w Ak nk (eKey e)) (h : RB w A n key) :
    Calls Tryd.prog 46 #[.agg #[.slice Ak nk ck, .int .i64 (eSeq e), .bool (eGone e), .int .i64 (eTil e), .slice Av nv cv], .slice A n c, .int .i64 s] w fun r w' => r = .returned (.bool (aheadK e key s)) ∧ Below w.heap.size w w' := by
  obtain ⟨C, hC⟩ : ∃ C, cmpB (eKey e) key = C := ⟨_, rfl⟩
  have HA : Hid (aheadK e key s = decide (C < 0 ∨ (C = 0 ∧ s < eSeq e))) := by unfold Hid aheadK; rw [hC]
  have H1 := hid (hk.alloc (.cells #[.slice Ak nk ck, .int .i64 (eSeq e), .bool (eGone e), .int .i64 (eTil e), .slice Av nv cv] 29))
  have H2 := hid (h.alloc (.cells #[.slice Ak nk ck, .int .i64 (eSeq e), .bool (eGone e), .int .i64 (eTil e), .slice Av nv cv] 29))
  have HC := hid hC
  clear hk h hC
  go_enter Tryd.func46, Tryd.ntmps46
  go_wp2_with (go_at_call 44; (with_reducible refine (compare_any Ak nk ck (eKey e) A n c key _ H1.out H2.out).mono ?_); rintro r w1 ⟨rfl, rfl⟩; rw [HC.out])
  all_goals
    go_ret
    refine ⟨?_, below_alloc' (Below.refl _ _) _⟩
    rw [HA.out]
    refine ret_bool ?_
    try simp only [beq_iff_eq, beq_eq_false_iff_ne] at *
    first
    | (rw [eq_comm, decide_eq_false_iff_not]; omega)
    | (rw [eq_comm, decide_eq_true_iff]; omega)
    | (rw [decide_eq_decide]; omega)
    | (simp; omega)
set_option maxHeartbeats 8000000 in
theorem equal_any (A : Option Addr) (n c : Nat) (xs : List UInt8) (A' : Option Addr) (n' c' : Nat) (ys : List UInt8) (w : World) (h : RB w A n xs) (h' : RB w A' n' ys) :
    Calls Tryd.prog 24 #[.slice A n c, .slice A' n' c'] w fun e w' => e = .returned (.bool (decide (xs = ys))) ∧ w = w' := by
  have q1 := h.conv c
  have q2 := h'.conv c'
  have b1 : (bstr xs).toList = xs := ByteArray.toList_mk xs
  have b2 : (bstr ys).toList = ys := ByteArray.toList_mk ys
  have HB : Hid (((bstr xs).toList == (bstr ys).toList) = decide (xs = ys)) := by
    unfold Hid
    rw [b1, b2]
    exact Bool.eq_iff_iff.2 (by simp)
  clear h h' b1 b2
  go_enter Tryd.func24, Tryd.ntmps24
  go_wp2
  go_ret
  exact ⟨by rw [← HB.out]; rfl, rfl⟩
end Go.Proofs.YtkkclkknpjapcaaDoor
/-! ### EnB -/
namespace Go.Proofs.YtkkclkknpjapcaaDoor
open Go.RowKit
set_option linter.unusedVariables false
set_option linter.unusedSimpArgs false

theorem entry5 : (Tryd.prog.info? 29).map (·.size) = some 5 := by kernel_rfl
theorem set5 {wr : World} {b : Nat} {a0 a1 a2 a3 a4 : Value} {T : TypeId} (c0 c1 c2 c3 c4 : Value) (h : wr.heap[b]? = some (.cells #[a0, a1, a2, a3, a4] T (0, 0))) : (((((wr.setCell ⟨b, 0, none⟩ c0).setCell ⟨b, 1, none⟩ c1).setCell ⟨b, 2, none⟩ c2).setCell ⟨b, 3, none⟩ c3).setCell ⟨b, 4, none⟩ c4).heap[b]? = some (.cells #[c0, c1, c2, c3, c4] T (0, 0)) := by
  have h1 := heap_setCell_same wr b 0 _ _ c0 h
  have h2 := heap_setCell_same _ b 1 _ _ c1 h1
  have h3 := heap_setCell_same _ b 2 _ _ c2 h2
  have h4 := heap_setCell_same _ b 3 _ _ c3 h3
  have h5 := heap_setCell_same _ b 4 _ _ c4 h4
  exact h5
theorem grown_set5 (wr : World) (b : Nat) (c0 c1 c2 c3 c4 : Value) : wr.grownBy (((((wr.setCell ⟨b, 0, none⟩ c0).setCell ⟨b, 1, none⟩ c1).setCell ⟨b, 2, none⟩ c2).setCell ⟨b, 3, none⟩ c3).setCell ⟨b, 4, none⟩ c4) (some b) :=
  grown_trans (grown_trans (grown_trans (grown_trans (grown_set _ _ _ _) (grown_set _ _ _ _)) (grown_set _ _ _ _)) (grown_set _ _ _ _)) (grown_set _ _ _ _)
theorem results_box2 {P : Program} {fn : Func} {p u : Tmp} {ty : TypeId} (h : fn.results = #[.cell p ty, .tmp u]) (tmps : Array Value) (w : World) (g : Nat) (t : TypeId) (cs : Array Value) (fr : Nat × Nat) (d : TypeDesc)
    (hp : tmps.getD p undef = .pointer (some ⟨g, 0, none⟩)) (hg : w.heap[g]? = some (.cells cs t fr))
    (hu : P.underlying ty = some d) (hd : (match d with | .struct _ | .array _ _ => true | _ => false) = true) (hi : (P.info? ty).map (·.size) = some cs.size) :
    (results fn tmps).run P w = .ok (.tuple #[.agg cs, tmps.getD u undef]) w := by
  rw [results_cell_tmp h, hp]
  simp [asAddr, run_loadVar_row w g t ty cs fr d hg hu hd hi]
theorem eninfo : (Tryd.prog.info? 29).map (fun i => (i.zero, i.size, i.bytes)) = some (some (.agg #[.slice none 0 0, .int .i64 0, .bool false, .int .i64 0, .slice none 0 0]), 5, 72) := by kernel_rfl
theorem ones5 {a b c d f : Value} (ha : a.oneCell' = true) (hb : b.oneCell' = true) (hc : c.oneCell' = true) (hd : d.oneCell' = true) (hf : f.oneCell' = true) : ∀ u ∈ (#[a, b, c, d, f] : Array Value).toList, u.oneCell' = true := by
  intro u hu
  simp only [List.mem_cons, List.not_mem_nil, or_false] at hu
  rcases hu with rfl | rfl | rfl | rfl | rfl <;> assumption
/-- An entry's cells, its bytes one's own. -/
def PEo (w : World) (base : Nat) (x : List Value) (e : EntR) : Prop :=
  ∃ kv vv, x = [kv, .int .i64 (eSeq e), .bool (eGone e), .int .i64 (eTil e), vv] ∧ OB w base kv (eKey e) ∧ OB w base vv (eVal e)
theorem PEo.grown {w w' : World} {base base' : Nat} {v : Value} {V : List (List Value)} {x : List Value} {e : EntR} (h : PEo w base x e) (hg : w.grownBy w' v.ownBlock) (hv : OV w base' 29 5 v V) : PEo w' base x e := by
  obtain ⟨kv, vv, hx, h1, h2⟩ := h
  exact ⟨kv, vv, hx, h1.other hg (h1.apart_row hv (by decide)), h2.other hg (h2.apart_row hv (by decide))⟩
theorem PEo.below {w w' : World} {base : Nat} {x : List Value} {e : EntR} (h : PEo w base x e) (hb : Below w.heap.size w w') : PEo w' base x e := by
  obtain ⟨kv, vv, hx, h1, h2⟩ := h
  exact ⟨kv, vv, hx, h1.below hb, h2.below hb⟩
theorem PEo.mono {w : World} {base base' : Nat} {x : List Value} {e : EntR} (h : PEo w base x e) (hb : base' ≤ base) : PEo w base' x e := by
  obtain ⟨kv, vv, hx, h1, h2⟩ := h
  exact ⟨kv, vv, hx, h1.mono hb, h2.mono hb⟩
/-- A row of entries, all of it one's own. -/
def ROw (w : World) (base : Nat) (v : Value) (es : List EntR) : Prop := ∃ V, OV w base 29 5 v V ∧ RelV noEnt (PEo w base) V es
theorem ROw.nil (w : World) (base : Nat) : ROw w base (.slice none 0 0) [] := ⟨[], OV.nil _ _ _ _, RelV.nil⟩
theorem ROw.below {w w' : World} {base : Nat} {v : Value} {es : List EntR} (h : ROw w base v es) (hb : Below w.heap.size w w') : ROw w' base v es := by
  obtain ⟨V, h1, h2⟩ := h
  exact ⟨V, h1.below hb, h2.mono fun x a hx => hx.below hb⟩
theorem row_step {wr w4 w3 : World} {base : Nat} {v kv vv : Value} {V : List (List Value)} {es : List EntR} {e : EntR} (hb4 : Below wr.heap.size wr w4) (hown : OV wr base 29 5 v V) (hrel : RelV noEnt (PEo wr base) V es) (hbase : base ≤ wr.heap.size)
    (ok : OB w4 wr.heap.size kv (eKey e)) (ov : OB w4 wr.heap.size vv (eVal e)) (hg : w4.grownBy w3 v.ownBlock) : RelV noEnt (PEo w3 base) (V ++ [[kv, .int .i64 (eSeq e), .bool (eGone e), .int .i64 (eTil e), vv]]) (es ++ [e]) :=
  RelV.snoc (hrel.mono fun x a hx => (hx.below hb4).grown hg (hown.below hb4)) ⟨kv, vv, rfl, OB.mono (ok.other hg (ok.apart_row (hown.below hb4) (by decide))) hbase, OB.mono (ov.other hg (ov.apart_row (hown.below hb4) (by decide))) hbase⟩
/-- An entry's cells at an address. -/
def EnC (w : World) (ad : Addr) (e : EntR) : Prop := ∃ Ak nk ck Av nv cv, w.cell? ad = some (.slice Ak nk ck) ∧ w.cell? ⟨ad.block, ad.off + 1, none⟩ = some (.int .i64 (eSeq e)) ∧ w.cell? ⟨ad.block, ad.off + 2, none⟩ = some (.bool (eGone e)) ∧ w.cell? ⟨ad.block, ad.off + 3, none⟩ = some (.int .i64 (eTil e)) ∧ w.cell? ⟨ad.block, ad.off + 4, none⟩ = some (.slice Av nv cv) ∧
  RB w Ak nk (eKey e) ∧ RB w Av nv (eVal e) ∧ nk ≤ ck ∧ nv ≤ cv
theorem EnC.below {w w' : World} {ad : Addr} {e : EntR} (h : EnC w ad e) (hb : Below w.heap.size w w') : EnC w' ad e := by
  obtain ⟨Ak, nk, ck, Av, nv, cv, h0, h1, h2, h3, h4, h5, h6, h7, h8⟩ := h
  exact ⟨Ak, nk, ck, Av, nv, cv, below_cell hb h0, below_cell hb h1, below_cell hb h2, below_cell hb h3, below_cell hb h4, h5.below hb, h6.below hb, h7, h8⟩
def REnts (w : World) (A : Option Addr) (n : Nat) (es : List EntR) : Prop :=
  es.length = n ∧ n ≤ 9223372036854775807 ∧ (0 < n → ∃ ad, A = some ad ∧ ∀ j, j < n → EnC w (ad.add (j * 5)) (elt noEnt es j))
theorem REnts.at_ {w : World} {A : Option Addr} {n : Nat} {es : List EntR} (h : REnts w A n es) {j : Nat} (hj : j < n) : ∃ ad, A = some ad ∧ EnC w (ad.add (j * 5)) (elt noEnt es j) := by
  obtain ⟨ad, e, hc⟩ := h.2.2 (by omega)
  exact ⟨ad, e, hc j hj⟩
theorem REnts.below {w w' : World} {A : Option Addr} {n : Nat} {es : List EntR} (h : REnts w A n es) (hb : Below w.heap.size w w') : REnts w' A n es :=
  ⟨h.1, h.2.1, fun hn => by
    obtain ⟨ad, e, hc⟩ := h.2.2 hn
    exact ⟨ad, e, fun j hj => (hc j hj).below hb⟩⟩
theorem REnts.nil (w : World) : REnts w none 0 [] := ⟨rfl, by decide, fun h => absurd h (by omega)⟩
/-- An entry's cells, its bytes read in a world. -/
def PER (w : World) (x : List Value) (e : EntR) : Prop :=
  ∃ Ak nk ck Av nv cv, x = [.slice Ak nk ck, .int .i64 (eSeq e), .bool (eGone e), .int .i64 (eTil e), .slice Av nv cv] ∧ RB w Ak nk (eKey e) ∧ RB w Av nv (eVal e) ∧ nk ≤ ck ∧ nv ≤ cv
theorem PEo.reads {w : World} {base : Nat} {x : List Value} {e : EntR} (h : PEo w base x e) : PER w x e := by
  obtain ⟨kv, vv, rfl, h1, h2⟩ := h
  obtain ⟨Ak, ck, rfl, hrk, hck⟩ := h1.open_
  obtain ⟨Av, cv, rfl, hrv, hcv⟩ := h2.open_
  exact ⟨Ak, _, ck, Av, _, cv, rfl, hrk, hrv, hck, hcv⟩
theorem PER.below {w w' : World} {x : List Value} {e : EntR} (h : PER w x e) (hb : Below w.heap.size w w') : PER w' x e := by
  obtain ⟨Ak, nk, ck, Av, nv, cv, e, h1, h2, h3, h4⟩ := h
  exact ⟨Ak, nk, ck, Av, nv, cv, e, h1.below hb, h2.below hb, h3, h4⟩
theorem REnts_of {w : World} {base : Nat} {v : Value} {V : List (List Value)} {es : List EntR} (h : OV w base 29 5 v V) (hr : RelV noEnt (PER w) V es) (hm : es.length ≤ 9223372036854775807) :
    ∃ A c, v = .slice A es.length c ∧ es.length ≤ c ∧ REnts w A es.length es := by
  have hl := hr.1
  rcases Nat.eq_zero_or_pos V.length with h0 | h0
  · obtain ⟨A, c, rfl, hc⟩ := h.open_
    exact ⟨A, c, by rw [hl], by omega, rfl, hm, fun hn => absurd hn (by omega)⟩
  · obtain ⟨g, c, rfl, _, _, hc⟩ := h.form h0
    refine ⟨_, c, by rw [hl], by omega, rfl, hm, fun _ => ⟨_, rfl, fun j hj => ?_⟩⟩
    obtain ⟨Ak, nk, ck, Av, nv, cv, hx, h1, h2, h3, h4⟩ := hr.2 j (by omega)
    have hc5 := fun i (hi : i < 5) => h.cell (j := j) (i := i) (by omega) hi
    rw [hx] at hc5
    rw [add_plain, Nat.zero_add]
    exact ⟨Ak, nk, ck, Av, nv, cv, hc5 0 (by omega), hc5 1 (by omega), hc5 2 (by omega), hc5 3 (by omega), hc5 4 (by omega), h1, h2, h3, h4⟩
theorem ROw.len {w : World} {base : Nat} {v : Value} {es : List EntR} (h : ROw w base v es) (hm : es.length ≤ 9223372036854775807) : ∃ A c, v = .slice A es.length c ∧ es.length ≤ c ∧ REnts w A es.length es := by
  obtain ⟨V, h1, h2⟩ := h
  exact REnts_of h1 (h2.mono fun x a hx => hx.reads) hm
theorem cmpB_nil_right (xs : List UInt8) : 0 ≤ cmpB xs [] := by
  cases xs with
  | nil => decide
  | cons x xs =>
    show (0 : Int) ≤ 1
    decide
theorem mayN_cases {nk nv : Nat} {s u : Int} {g : Bool} (h : mayN nk s g u nv = true) : 1 ≤ nk ∧ nk ≤ 512 ∧ nv ≤ 2048 ∧ 1 ≤ s ∧ s ≤ 4611686018427387904 := by
  unfold mayN at h
  rw [decide_eq_true_iff] at h
  exact ⟨h.1, h.2.1, h.2.2.1, h.2.2.2.1, h.2.2.2.2.1⟩
theorem mayE_cases {e : EntR} (h : mayE e = true) : 1 ≤ (eKey e).length ∧ (eKey e).length ≤ 512 ∧ (eVal e).length ≤ 2048 ∧ 1 ≤ eSeq e ∧ eSeq e ≤ 4611686018427387904 := mayN_cases h
theorem elt_mem {es : List EntR} {k : Nat} (h : k < es.length) : elt noEnt es k ∈ es := by
  unfold elt
  simp [h]
theorem drop_elt {es : List EntR} {k : Nat} (h : k < es.length) : es.drop k = elt noEnt es k :: es.drop (k + 1) := by
  rw [List.drop_eq_getElem_cons h]
  unfold elt
  simp [h]
end Go.Proofs.YtkkclkknpjapcaaDoor
