/- Layer 9: the new node in no level yet; the count behind. -/
import Derived.Test.YtlfjbklagljdlaaDoorMmP
namespace Go.Proofs.YtlfjbklagljdlaaDoor
open Go.RowKit
set_option linter.unusedVariables false
set_option linter.unusedSimpArgs false

theorem first_zero {A B : List NodeR} {g : Nat} {e : EntR} {kv vv : Value} (i : Nat) : firstAt i (A ++ mkNode g 0 e kv vv :: B) = firstAt i (A ++ B) := by
  induction A with
  | nil => rw [List.nil_append, List.nil_append, firstAt, if_neg (show ¬ i < nHt (mkNode g 0 e kv vv) from Nat.not_lt_zero i)]
  | cons x A ih => rw [List.cons_append, List.cons_append, firstAt, firstAt, ih]
theorem SLn.zero {w W : World} {base g : Nat} {e : EntR} {kv vv : Value} {B : List NodeR} (hb : Below w.heap.size w W) (hg : W.heap[g]? = some (.cells (nodeCells (mkNode g 0 e kv vv) B) 59 (0, 0))) (hk : OB W base kv (eKey e)) (hv : OB W base vv (eVal e)) (hgb : base ≤ g) (hgw : w.heap.size ≤ g) :
    ∀ A : List NodeR, SLn w base (A ++ B) → SLn W base (A ++ mkNode g 0 e kv vv :: B) := by
  intro A
  induction A with
  | nil =>
    intro h
    refine ⟨hg, hk, hv, Nat.zero_le _, hgb, fun y hy => ?_, SLn.below hb h⟩
    obtain ⟨⟨cs, hc⟩, _⟩ := SLn.blks h y hy
    have := lt_of_blk hc
    show nBlk y ≠ g
    omega
  | cons x A ih =>
    intro h
    rw [List.cons_append] at h ⊢
    obtain ⟨h1, h2, h3, h4, h5, h6, h7⟩ := h
    have h1' := blk_below hb h1
    rw [nodeCells_eq (l' := A ++ mkNode g 0 e kv vv :: B) (fun i hi => by unfold nextAt; rw [first_zero])] at h1'
    refine ⟨h1', h2.below hb, h3.below hb, h4, h5, fun y hy => ?_, ih h7⟩
    rcases List.mem_append.1 hy with hy | hy
    · exact h6 y (List.mem_append_left _ hy)
    · rcases List.mem_cons.1 hy with rfl | hy
      · have := lt_of_blk h1
        show g ≠ nBlk x
        omega
      · exact h6 y (List.mem_append_right _ hy)
theorem AddW.start {w W : World} {base bm n : Nat} {wt : Int} {A B : List NodeR} {e : EntR} {kv vv : Value} (hS : SL w base bm (A ++ B) n wt) (hB : Below w.heap.size w W) (hk : OB W base kv (eKey e)) (hv : OB W base vv (eVal e)) (hbase : base ≤ w.heap.size) (hbm : base ≤ bm) :
    AddW w (W.alloc (.cells (nodeCells (mkNode W.heap.size 0 e kv vv) B) 59)) base bm n wt A B W.heap.size 0 e kv vv := by
  have hB1 := below_alloc' hB (.cells (nodeCells (mkNode W.heap.size 0 e kv vv) B) 59)
  have hB2 : Below W.heap.size W (W.alloc (.cells (nodeCells (mkNode W.heap.size 0 e kv vv) B) 59)) := below_alloc' (Below.refl _ _) _
  have hsz := hB.size
  refine ⟨⟨?_, SLn.zero hB1 (heap_alloc_new W _) (OB.below hk hB2) (OB.below hv hB2) (by omega) hsz A hS.2⟩, KB.of_below hB1, hB1.mono hbase, hsz, hbm, fun i hi => ?_⟩
  · have := blk_below hB1 hS.1
    rw [this, headCells_eq (fun i hi => first_zero i)]
  · obtain ⟨cs, T, hc, _⟩ := hS.inM hi
    exact lt_of_blk hc
/-- The count and the weight, stored. -/
theorem SL.count {w : World} {base bm n : Nat} {wt : Int} {l : List NodeR} (h : SL w base bm l n wt) (n' : Nat) (wt' : Int) : SL ((w.setCell ⟨bm, 13, none⟩ (.int .i64 (n' : Int))).setCell ⟨bm, 14, none⟩ (.int .i64 wt')) base bm l n' wt' := by
  have h1 : (w.setCell ⟨bm, 13, none⟩ (.int .i64 (n' : Int))).heap[bm]? = some (.cells (headCells l n' wt) 63 (0, 0)) := heap_setCell_same w bm 13 _ _ (.int .i64 (n' : Int)) h.1
  have h2 : ((w.setCell ⟨bm, 13, none⟩ (.int .i64 (n' : Int))).setCell ⟨bm, 14, none⟩ (.int .i64 wt')).heap[bm]? = some (.cells (headCells l n' wt') 63 (0, 0)) := heap_setCell_same _ bm 14 _ _ (.int .i64 wt') h1
  have hg : w.grownBy ((w.setCell ⟨bm, 13, none⟩ (.int .i64 (n' : Int))).setCell ⟨bm, 14, none⟩ (.int .i64 wt')) (some bm) := grown_trans (grown_set _ _ _ _) (grown_set _ _ _ _)
  refine ⟨h2, ?_⟩
  have hne := h.ne_bm
  obtain ⟨hh, hn⟩ := h
  have : ∀ m : List NodeR, (∀ x ∈ m, x ∈ l) → SLn w base m → SLn ((w.setCell ⟨bm, 13, none⟩ (.int .i64 (n' : Int))).setCell ⟨bm, 14, none⟩ (.int .i64 wt')) base m := by
    intro m
    induction m with
    | nil => intro _ _; trivial
    | cons x m ih =>
      intro hm hc
      obtain ⟨c1, c2, c3, c4, c5, c6, c7⟩ := hc
      have hx := hne x (hm x (by simp))
      refine ⟨blk_grown' hg c1 (fun e => hx (Option.some.inj e).symm), c2.other hg (.inr (c2.ne_blk hh (by decide))), c3.other hg (.inr (c3.ne_blk hh (by decide))), c4, c5, c6, ih (fun y hy => hm y (by simp [hy])) c7⟩
  exact this l (fun x hx => hx) hn
/-- The whole mem: its nodes in order, each in a level or more. -/
structure MemOK (w : World) (base bm : Nat) (l : List NodeR) (n : Nat) (wt : Int) : Prop where
  sl : SL w base bm l n wt
  tall : ∀ x ∈ l, 1 ≤ nHt x
  srt : Srt (l.map nEnt)
  base_ : base ≤ bm
theorem split_map {l : List NodeR} (key : List UInt8) (s : Int) (h : Srt (l.map nEnt)) : ∃ A B, l = A ++ B ∧ A.map nEnt = preK key s (l.map nEnt) ∧ B.map nEnt = sufK key s (l.map nEnt) ∧ (∀ x ∈ A, aheadK (nEnt x) key s = true) ∧ (∀ x ∈ B, aheadK (nEnt x) key s = false) := by
  have hp := pre_suf key s (l.map nEnt)
  obtain ⟨A, B, rfl, hA, hB⟩ := List.map_eq_append_iff.1 hp.symm
  refine ⟨A, B, rfl, hA, hB, fun x hx => ?_, fun x hx => ?_⟩
  · exact pre_all (nEnt x) (by rw [← hA]; exact List.mem_map_of_mem hx)
  · exact suf_none h (nEnt x) (by rw [← hB]; exact List.mem_map_of_mem hx)
end Go.Proofs.YtlfjbklagljdlaaDoor
