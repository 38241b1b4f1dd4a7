/- Layer 11's laws: awake. -/
import Derived.Test.YteediedhofapkaaBkF
import Derived.Lib.SmallJoins
namespace Go.Proofs.Yteediedhofapkaa
open Go.RowKit
set_option linter.unusedVariables false
set_option linter.unusedSimpArgs false

theorem rb_lit1' (w : World) (y : UInt8) (z : Int) (hz : z = y.toNat) (T : TypeId) (fr : Nat × Nat) (g : Nat) (hg : g = w.heap.size) : RB (w.alloc (.cells #[.int .u8 z] T fr)) (some ⟨g, 0, none⟩) 1 [y] := by
  subst hz hg
  exact RB.lit w [y] _ _ _ rfl (by simp)
def entX : EntR := mkEnt [97, 98] 3 false 0 [120]
theorem fit_x : FitK [entX] := by
  refine ⟨by decide, by decide, fun j hj => ?_, ordN_Srt fun i h1 h2 => by simp at h2; omega⟩
  obtain rfl : j = 0 := by simp at hj; omega
  decide
theorem enc_x : encK [entX] = [0, 2, 97, 98, 3, 0, 0, 1, 120, 0, 0, 0, 0, 0, 0, 0, 1] := by decide +kernel
theorem bstr_x : bstr [0, 2, 97, 98, 3, 0, 0, 1, 120, 0, 0, 0, 0, 0, 0, 0, 1] = ⟨#[0, 2, 97, 98, 3, 0, 0, 1, 120, 0, 0, 0, 0, 0, 0, 0, 1]⟩ := by decide +kernel
theorem rents_x (U : World) (k1 k2 g : Nat) (hg : g = U.heap.size) (h1 : RB U (some ⟨k1, 0, none⟩) 2 [97, 98]) (h2 : RB U (some ⟨k2, 0, none⟩) 1 [120]) :
    REnts (U.alloc (.cells #[.slice (some ⟨k1, 0, none⟩) 2 2, .int .i64 3, .bool false, .int .i64 0, .slice (some ⟨k2, 0, none⟩) 1 1] 26)) (some ⟨g, 0, none⟩) 1 [entX] := by
  subst hg
  have hb := heap_alloc_new U (.cells #[.slice (some ⟨k1, 0, none⟩) 2 2, .int .i64 3, .bool false, .int .i64 0, .slice (some ⟨k2, 0, none⟩) 1 1] 26)
  have hB := below_alloc' (Below.refl U.heap.size U) (.cells #[.slice (some ⟨k1, 0, none⟩) 2 2, .int .i64 3, .bool false, .int .i64 0, .slice (some ⟨k2, 0, none⟩) 1 1] 26)
  refine ⟨rfl, by omega, fun _ => ⟨_, rfl, fun j hj => ?_⟩⟩
  obtain rfl : j = 0 := by omega
  exact ⟨_, 2, 2, _, 1, 1, box_at hb 0 _ rfl, box_at hb 1 _ rfl, box_at hb 2 _ rfl, box_at hb 3 _ rfl, box_at hb 4 _ rfl, h1.below hB, h2.below hB, by omega, by omega⟩
set_option maxHeartbeats 16000000 in
set_option maxRecDepth 100000 in
theorem awake_any (w : World) : Calls Try.prog 10 #[] w fun e w' => e = .returned (.bool true) ∧ Below w.heap.size w w' := by
  have kc := fun (w : World) (C : Array Value) (n c : Nat) => Lib.run_convert_bytes_const (P := Try.prog) w 23 5 C n c Try.underlying23 Try.underlying5
  have kc2 := fun (w : World) (o : Obj) (C : Array Value) (n c : Nat) => Go.Joins.run_convert_bytes_const_at (P := Try.prog) (w.alloc o) 23 5 C n c (w.heap.size + 1) (by simp) Try.underlying23 Try.underlying5
  have r1 : RB ((w.alloc (.cells #[.int .u8 97, .int .u8 98] 5 (2, 3))).alloc (.cells #[.int .u8 120] 5 (1, 2))) (some ⟨w.heap.size, 0, none⟩) 2 [97, 98] := (RB.lit w [97, 98] _ _ _ rfl (by simp)).alloc _
  have r2 : RB ((w.alloc (.cells #[.int .u8 97, .int .u8 98] 5 (2, 3))).alloc (.cells #[.int .u8 120] 5 (1, 2))) (some ⟨w.heap.size + 1, 0, none⟩) 1 [120] := by
    exact rb_lit1' _ 120 120 rfl _ _ _ (by simp)
  have hR := hid (rents_x _ w.heap.size (w.heap.size + 1) (w.heap.size + 1 + 1) (by simp) r1 r2)
  have hB := below_alloc' (below_alloc' (below_alloc' (Below.refl w.heap.size w) (.cells #[.int .u8 97, .int .u8 98] 5 (2, 3))) (.cells #[.int .u8 120] 5 (1, 2))) (.cells #[.slice (some ⟨w.heap.size, 0, none⟩) 2 2, .int .i64 3, .bool false, .int .i64 0, .slice (some ⟨w.heap.size + 1, 0, none⟩) 1 1] 26)
  have hbs := bstr_x
  clear r1 r2
  go_enter Try.func10, Try.ntmps10
  go_wp2_with (go_at_call 6; go_loud (refine (encode_fit _ 1 1 [entX] _ hR.out fit_x).mono ?_); rintro r w7 ⟨v7, rfl, ho7, hb7⟩; rw [enc_x] at ho7; have hcv := ho7.conv; rw [hbs] at hcv)
  go_ret
  exact ⟨by first | rfl | simp, below_then hB hb7⟩
end Go.Proofs.Yteediedhofapkaa
