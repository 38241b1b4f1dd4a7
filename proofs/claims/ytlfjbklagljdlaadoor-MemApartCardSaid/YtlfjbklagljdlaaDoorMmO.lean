/- Layer 9: an entry in memory of its own. -/
import Derived.Test.YtlfjbklagljdlaaDoorMmH
namespace Go.Proofs.YtlfjbklagljdlaaDoor
open Go.RowKit
set_option linter.unusedVariables false
set_option linter.unusedSimpArgs false

theorem entry5 : (Tryd.prog.info? 28).map (·.size) = some 5 := by kernel_rfl
theorem set5 {wr : World} {b : Nat} {a0 a1 a2 a3 a4 : Value} {T : TypeId} (c0 c1 c2 c3 c4 : Value) (h : wr.heap[b]? = some (.cells #[a0, a1, a2, a3, a4] T (0, 0))) : (((((wr.setCell ⟨b, 0, none⟩ c0).setCell ⟨b, 1, none⟩ c1).setCell ⟨b, 2, none⟩ c2).setCell ⟨b, 3, none⟩ c3).setCell ⟨b, 4, none⟩ c4).heap[b]? = some (.cells #[c0, c1, c2, c3, c4] T (0, 0)) := by
  have h1 := heap_setCell_same wr b 0 _ _ c0 h
  have h2 := heap_setCell_same _ b 1 _ _ c1 h1
  have h3 := heap_setCell_same _ b 2 _ _ c2 h2
  have h4 := heap_setCell_same _ b 3 _ _ c3 h3
  have h5 := heap_setCell_same _ b 4 _ _ c4 h4
  exact h5
theorem grown_set5 (wr : World) (b : Nat) (c0 c1 c2 c3 c4 : Value) : wr.grownBy (((((wr.setCell ⟨b, 0, none⟩ c0).setCell ⟨b, 1, none⟩ c1).setCell ⟨b, 2, none⟩ c2).setCell ⟨b, 3, none⟩ c3).setCell ⟨b, 4, none⟩ c4) (some b) :=
  grown_trans (grown_trans (grown_trans (grown_trans (grown_set _ _ _ _) (grown_set _ _ _ _)) (grown_set _ _ _ _)) (grown_set _ _ _ _)) (grown_set _ _ _ _)
set_option maxHeartbeats 16000000 in
set_option maxRecDepth 100000 in
theorem own_any (Ak : Option Addr) (nk ck : Nat) (key : List UInt8) (s : Int) (g : Bool) (u : Int) (Av : Option Addr) (nv cv : Nat) (val : List UInt8) (w : World) (hk : RB w Ak nk key) (hv : RB w Av nv val) (h1 : nk ≤ 140737488355328) (h2 : nv ≤ 140737488355328) :
    Calls Tryd.prog 34 #[.agg #[.slice Ak nk ck, .int .i64 s, .bool g, .int .i64 u, .slice Av nv cv]] w fun e w' => ∃ kv vv, e = .returned (.agg #[kv, .int .i64 s, .bool g, .int .i64 u, vv]) ∧ OB w' w.heap.size kv key ∧ OB w' w.heap.size vv val ∧ Below w.heap.size w w' := by
  have hnk := hk.1
  have hnv := hv.1
  have e0 : (w.alloc (.cells #[.slice Ak nk ck, .int .i64 s, .bool g, .int .i64 u, .slice Av nv cv] 28)).heap.size = w.heap.size + 1 := by simp
  have hbx := blk_below (below_alloc' (Below.refl _ _) (.cells #[.slice none 0 0, .int .i64 0, .bool false, .int .i64 0, .slice none 0 0] 28)) (heap_alloc_new w (.cells #[.slice Ak nk ck, .int .i64 s, .bool g, .int .i64 u, .slice Av nv cv] 28))
  have hrx := heap_alloc_new (w.alloc (.cells #[.slice Ak nk ck, .int .i64 s, .bool g, .int .i64 u, .slice Av nv cv] 28)) (.cells #[.slice none 0 0, .int .i64 0, .bool false, .int .i64 0, .slice none 0 0] 28)
  rw [e0] at hrx
  have hB0 : Below w.heap.size w ((w.alloc (.cells #[.slice Ak nk ck, .int .i64 s, .bool g, .int .i64 u, .slice Av nv cv] 28)).alloc (.cells #[.slice none 0 0, .int .i64 0, .bool false, .int .i64 0, .slice none 0 0] 28)) := below_alloc' (below_alloc' (Below.refl _ _) _) _
  have hk0 := (hk.alloc (.cells #[.slice Ak nk ck, .int .i64 s, .bool g, .int .i64 u, .slice Av nv cv] 28)).alloc (.cells #[.slice none 0 0, .int .i64 0, .bool false, .int .i64 0, .slice none 0 0] 28)
  clear hk
  go_enter Tryd.func34, Tryd.ntmps34
  go_wp2_with (first
    | (at_builtin; go_loud (refine wpB_append w _ w.heap.size rfl _ (.tmp 4) rfl (.slice none 0 0) [] rfl (OB.nil _ _) Ak nk ck key rfl hk0 (by simp; omega) hB0 hB0.size ?_); intro v1 w1 hown1 hB1 hg1 _; rw [List.nil_append] at hown1; obtain ⟨A1, c1, rfl, _, _⟩ := hown1.openN nk hnk; have hg1 := below_of_none hg1; have hbx1 := blk_below hg1 hbx; have hrx1 := blk_below hg1 hrx; have q1 := box_at hbx1 0 (.slice Ak nk ck) rfl; have f1 := fun i => frozen_of_row w1 w.heap.size i _ _ hbx1; have gs1 := grown_set w1 w.heap.size 0 (.slice A1 nk c1); have hbx2 := heap_setCell_same w1 w.heap.size 0 _ _ (.slice A1 nk c1) hbx1; have hrx2 := blk_grown' gs1 hrx1 (by intro e; have := Option.some.inj e; omega); have hB2 : Below w.heap.size w (w1.setCell ⟨w.heap.size, 0, none⟩ (.slice A1 nk c1)) := hB1.setCell (Nat.le_refl _) _; have hown2 := hown1.other gs1 (.inr (hown1.ne_blk hbx1 (by decide))); have hv2 := hv.below hB2; have q2 := box_at hbx2 4 (.slice Av nv cv) rfl)
    | (at_builtin; go_loud (refine wpB_append w _ w.heap.size rfl _ (.tmp 8) rfl (.slice none 0 0) [] rfl (OB.nil _ _) Av nv cv val rfl hv2 (by simp; omega) hB2 hB2.size ?_); intro v3 w3 hown3 hB3 hg3 _; rw [List.nil_append] at hown3; obtain ⟨A3, c3, rfl, _, _⟩ := hown3.openN nv hnv; have hg3 := below_of_none hg3; have hbx3 := blk_below hg3 hbx2; have hrx3 := blk_below hg3 hrx2; have hown4 := hown2.below hg3; have q3 := box_at hbx3 4 (.slice Av nv cv) rfl; have f3 := fun i => frozen_of_row w3 w.heap.size i _ _ hbx3; have gs3 := grown_set w3 w.heap.size 4 (.slice A3 nv c3); have hbx4 := heap_setCell_same w3 w.heap.size 4 _ _ (.slice A3 nv c3) hbx3; have hrx4 := blk_grown' gs3 hrx3 (by intro e; have := Option.some.inj e; omega); have hB4 : Below w.heap.size w (w3.setCell ⟨w.heap.size, 4, none⟩ (.slice A3 nv c3)) := hB3.setCell (Nat.le_refl _) _; have hown5 := hown4.other gs3 (.inr (hown4.ne_blk hbx3 (by decide))); have hown6 := hown3.other gs3 (.inr (hown3.ne_blk hbx3 (by decide))); have r0 := box_at hbx4 0 (.slice A1 nk c1) rfl; have r1 := box_at hbx4 1 (.int .i64 s) rfl; have r2 := box_at hbx4 2 (.bool g) rfl; have r3 := box_at hbx4 3 (.int .i64 u) rfl; have r4 := box_at hbx4 4 (.slice A3 nv c3) rfl; have z0 := box_at hrx4 0 (.slice none 0 0) rfl; have z1 := box_at hrx4 1 (.int .i64 0) rfl; have z2 := box_at hrx4 2 (.bool false) rfl; have z3 := box_at hrx4 3 (.int .i64 0) rfl; have z4 := box_at hrx4 4 (.slice none 0 0) rfl; have f4 := fun i => frozen_of_row _ (w.heap.size + 1) i _ _ hrx4))
  have hfin := set5 (.slice A1 nk c1) (.int .i64 s) (.bool g) (.int .i64 u) (.slice A3 nv c3) hrx4
  have hgf := grown_set5 (w3.setCell ⟨w.heap.size, 4, none⟩ (.slice A3 nv c3)) (w.heap.size + 1) (.slice A1 nk c1) (.int .i64 s) (.bool g) (.int .i64 u) (.slice A3 nv c3)
  trace_state
  refine bodyPost_ret (v := .agg #[.slice A1 nk c1, .int .i64 s, .bool g, .int .i64 u, .slice A3 nv c3]) (results_cell_row (P := Tryd.prog) (fn := Tryd.f34) (p := 2) (ty := 28) rfl _ _ (w.heap.size + 1) 28 _ (0, 0) _ rfl hfin Tryd.underlying28 rfl entry5) rfl ⟨_, _, rfl, ?_, ?_, ?_⟩
  · exact hown5.other hgf (.inr (hown5.ne_blk hrx4 (by decide)))
  · exact hown6.other hgf (.inr (hown6.ne_blk hrx4 (by decide)))
  · exact hB4.grown hgf hB4.size (fun k hk => by cases hk; omega)
end Go.Proofs.YtlfjbklagljdlaaDoor
