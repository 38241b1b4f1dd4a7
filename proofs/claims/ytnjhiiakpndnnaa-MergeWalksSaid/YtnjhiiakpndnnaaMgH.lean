/- Layer 16's laws: awake. -/
import Derived.Test.YtnjhiiakpndnnaaMgG
import Derived.Lib.SmallJoins
namespace Go.Proofs.Ytnjhiiakpndnnaa
open Go.RowKit
set_option linter.unusedVariables false
set_option linter.unusedSimpArgs false

theorem rb_lit1 (w : World) (y : UInt8) (z : Int) (hz : z = y.toNat) (T : TypeId) (fr : Nat × Nat) (g : Nat) (hg : g = w.heap.size) : RB (w.alloc (.cells #[.int .u8 z] T fr)) (some ⟨g, 0, none⟩) 1 [y] := by
  subst hz hg
  exact RB.lit w [y] _ _ _ rfl (by simp)
def entA : EntR := mkEnt [97] 5 false 0 []
def entB : EntR := mkEnt [97] 7 false 0 []
theorem enc_lit (w : World) (k g : Nat) (e : EntR) (q : Int) (he : e = mkEnt [97] q false 0 []) (hk : RB w (some ⟨k, 0, none⟩) 1 [97]) (hb : w.heap[g]? = some (.cells #[.slice (some ⟨k, 0, none⟩) 1 1, .int .i64 q, .bool false, .int .i64 0, .slice none 0 0] 35 (0, 0))) : REnts w (some ⟨g, 0, none⟩) 1 [e] := by
  subst he
  refine ⟨rfl, by omega, fun _ => ⟨_, rfl, fun j hj => ?_⟩⟩
  obtain rfl : j = 0 := by omega
  exact ⟨_, 1, 1, none, 0, 0, box_at hb 0 _ rfl, box_at hb 1 _ rfl, box_at hb 2 _ rfl, box_at hb 3 _ rfl, box_at hb 4 _ rfl, hk, RB.nil _, by omega, by omega⟩
theorem renss2 (U : World) (k1 k2 g : Nat) (hg : g = U.heap.size) (h1 : RB U (some ⟨k1, 0, none⟩) 1 [97]) (h2 : RB U (some ⟨k2, 0, none⟩) 1 [97]) :
    REnss (((U.alloc (.cells #[.slice (some ⟨k1, 0, none⟩) 1 1, .int .i64 5, .bool false, .int .i64 0, .slice none 0 0] 35)).alloc (.cells #[.slice (some ⟨k2, 0, none⟩) 1 1, .int .i64 7, .bool false, .int .i64 0, .slice none 0 0] 35)).alloc (.cells #[.slice (some ⟨g, 0, none⟩) 1 1, .slice (some ⟨g + 1, 0, none⟩) 1 1] 27)) (some ⟨g + 1 + 1, 0, none⟩) 2 [[entA], [entB]] := by
  subst hg
  have hb1 := heap_alloc_new U (.cells #[.slice (some ⟨k1, 0, none⟩) 1 1, .int .i64 5, .bool false, .int .i64 0, .slice none 0 0] 35)
  generalize hU1 : U.alloc (.cells #[.slice (some ⟨k1, 0, none⟩) 1 1, .int .i64 5, .bool false, .int .i64 0, .slice none 0 0] 35) = U1 at *
  have hs1 : U1.heap.size = U.heap.size + 1 := by rw [← hU1]; simp
  have r1 : RB U1 (some ⟨k1, 0, none⟩) 1 [97] := by rw [← hU1]; exact h1.alloc _
  have r2 : RB U1 (some ⟨k2, 0, none⟩) 1 [97] := by rw [← hU1]; exact h2.alloc _
  have hb2 := heap_alloc_new U1 (.cells #[.slice (some ⟨k2, 0, none⟩) 1 1, .int .i64 7, .bool false, .int .i64 0, .slice none 0 0] 35)
  have hbb := blk_below (below_alloc' (Below.refl _ _) (.cells #[.slice (some ⟨k2, 0, none⟩) 1 1, .int .i64 7, .bool false, .int .i64 0, .slice none 0 0] 35)) hb1
  generalize hU2 : U1.alloc (.cells #[.slice (some ⟨k2, 0, none⟩) 1 1, .int .i64 7, .bool false, .int .i64 0, .slice none 0 0] 35) = U2 at *
  have hs2 : U2.heap.size = U1.heap.size + 1 := by rw [← hU2]; simp
  have r1' : RB U2 (some ⟨k1, 0, none⟩) 1 [97] := by rw [← hU2]; exact r1.alloc _
  have r2' : RB U2 (some ⟨k2, 0, none⟩) 1 [97] := by rw [← hU2]; exact r2.alloc _
  rw [hs1] at hb2
  have e1 := enc_lit U2 k1 U.heap.size entA 5 rfl r1' hbb
  have e2 := enc_lit U2 k2 (U.heap.size + 1) entB 7 rfl r2' hb2
  have hB := below_alloc' (Below.refl U2.heap.size U2) (.cells #[.slice (some ⟨U.heap.size, 0, none⟩) 1 1, .slice (some ⟨U.heap.size + 1, 0, none⟩) 1 1] 27)
  have hb3 := heap_alloc_new U2 (.cells #[.slice (some ⟨U.heap.size, 0, none⟩) 1 1, .slice (some ⟨U.heap.size + 1, 0, none⟩) 1 1] 27)
  rw [hs2, hs1] at hb3
  refine ⟨rfl, by omega, fun _ => ⟨_, rfl, fun j hj => ?_⟩⟩
  rcases (by omega : j = 0 ∨ j = 1) with rfl | rfl
  · exact ⟨_, 1, 1, box_at hb3 0 _ rfl, e1.below hB, by omega⟩
  · exact ⟨_, 1, 1, box_at hb3 1 _ rfl, e2.below hB, by omega⟩
theorem mrel_lit : MRel [[entA], [entB]] [entB, entA] := by
  refine ⟨1, by simp, by simp [er, elt], rfl, fun r h1 h2 h3 => ?_, 0, by simp, by simp [er, elt], rfl, fun r h1 h2 h3 => ?_, fun r hr => ?_⟩
  · obtain rfl : r = 0 := by simp at h1; omega
    exact .inl (by decide)
  · simp at h1
    obtain rfl : r = 1 := by omega
    exact absurd rfl h2
  · simp at hr
    rcases (by omega : r = 0 ∨ r = 1) with rfl | rfl <;> rfl
theorem merge_lit (U : World) (k1 k2 g : Nat) (hg : g = U.heap.size) (h1 : RB U (some ⟨k1, 0, none⟩) 1 [97]) (h2 : RB U (some ⟨k2, 0, none⟩) 1 [97]) (W : World) (hW : W = ((U.alloc (.cells #[.slice (some ⟨k1, 0, none⟩) 1 1, .int .i64 5, .bool false, .int .i64 0, .slice none 0 0] 35)).alloc (.cells #[.slice (some ⟨k2, 0, none⟩) 1 1, .int .i64 7, .bool false, .int .i64 0, .slice none 0 0] 35)).alloc (.cells #[.slice (some ⟨g, 0, none⟩) 1 1, .slice (some ⟨g + 1, 0, none⟩) 1 1] 27)) :
    Calls Try.prog 12 #[.slice (some ⟨g + 1 + 1, 0, none⟩) 2 2] W fun r w' => ∃ d c, r = .returned (.tuple #[.slice (some ⟨d, 0, none⟩) 2 c, .int .i64 0]) ∧ w'.cell? ⟨d, 1, none⟩ = some (.int .i64 7) ∧ Below U.heap.size U w' := by
  have hr : REnss W (some ⟨g + 1 + 1, 0, none⟩) 2 [[entA], [entB]] := by rw [hW]; exact renss2 U k1 k2 g hg h1 h2
  have hB : Below U.heap.size U W := by rw [hW]; exact below_alloc' (below_alloc' (below_alloc' (Below.refl _ _) _) _) _
  refine (merge_any _ 2 2 _ W hr ?_ (by omega) (by simp [totR]) ?_).mono ?_
  · intro r hr
    rcases (by omega : r = 0 ∨ r = 1) with rfl | rfl <;> exact ordN_Srt fun i h1 h2 => by simp [er, elt] at h2; omega
  · intro r hr e he
    simp at hr
    rcases (by omega : r = 0 ∨ r = 1) with rfl | rfl
    · simp [er, elt] at he
      subst he
      decide
    · simp [er, elt] at he
      subst he
      decide
  · rintro r w' ⟨v, out, rfl, hm, hl, ⟨V, hv, hrel⟩, hb⟩
    have e := MRel.unique hm mrel_lit
    subst e
    have hVl : V.length = 2 := hrel.1
    obtain ⟨d, c, rfl, _, _, _⟩ := hv.form (by omega)
    have hc := hv.cell (j := 0) (i := 1) (by omega) (by omega)
    obtain ⟨kv, vv, hx, _⟩ := hrel.2 0 (by omega)
    rw [hx] at hc
    have hs : eSeq (elt noEnt [entB, entA] 0) = 7 := rfl
    rw [hs] at hc
    rw [hVl]
    exact ⟨d, c, rfl, by simpa using hc, below_then hB hb⟩
set_option maxHeartbeats 16000000 in
set_option maxRecDepth 100000 in
theorem awake_any (w : World) : Calls Try.prog 10 #[] w fun e w' => e = .returned (.bool true) ∧ Below w.heap.size w w' := by
  have kc := fun (w : World) (C : Array Value) (n c : Nat) => Lib.run_convert_bytes_const (P := Try.prog) w 33 5 C n c Try.underlying33 Try.underlying5
  have kc2 := fun (w : World) (o : Obj) (C : Array Value) (n c : Nat) => Go.Joins.run_convert_bytes_const_at (P := Try.prog) (w.alloc o) 33 5 C n c (w.heap.size + 1) (by simp) Try.underlying33 Try.underlying5
  go_enter Try.func10, Try.ntmps10
  go_wp2_with (go_at_call 12; go_loud (with_reducible refine (merge_lit ((((w.alloc (.cells #[.int .u8 97] 5 (1, 2))).alloc (.cells #[.int .u8 97] 5 (1, 2))).alloc (.cells #[.slice (some ⟨w.heap.size, 0, none⟩) 1 1, .int .i64 5, .bool false, .int .i64 0, .slice none 0 0] 35)).alloc (.cells #[.slice (some ⟨w.heap.size + 1, 0, none⟩) 1 1, .int .i64 7, .bool false, .int .i64 0, .slice none 0 0] 35)) w.heap.size (w.heap.size + 1) (w.heap.size + 1 + 1 + 1 + 1) (by simp) ((((rb_lit1 w 97 97 rfl _ _ _ rfl).alloc _).alloc _).alloc _) (((rb_lit1 _ 97 97 rfl _ _ _ (by simp)).alloc _).alloc _) _ rfl).mono ?_); rintro r w1 ⟨d, c, rfl, hc7, hb1⟩)
  all_goals
    go_ret
    exact ⟨by simp, (below_alloc' (below_alloc' (below_alloc' (below_alloc' (Below.refl _ _) _) _) _) _).trans (hb1.mono (by simp; omega))⟩
set_option maxHeartbeats 8000000 in
theorem left_nil (w : World) : Calls Try.prog 21 #[.pointer none] w fun e w' => e = .returned (.int .i64 0) ∧ w = w' := by
  go_enter Try.func21, Try.ntmps21
  go_wp2
  go_ret
  exact ⟨rfl, rfl⟩
set_option maxHeartbeats 8000000 in
theorem seek_nil (A : Option Addr) (n c : Nat) (w : World) : Calls Try.prog 20 #[.pointer none, .slice A n c] w fun e w' => e = .returned (.tuple #[]) ∧ Below w.heap.size w w' := by
  go_enter Try.func20, Try.ntmps20
  go_wp2
  go_end0
  exact ⟨rfl, below_alloc' (below_alloc' (Below.refl _ _) _) _⟩
set_option maxHeartbeats 8000000 in
theorem next_nil (w : World) : Calls Try.prog 16 #[.pointer none] w fun e w' => e = .returned (.tuple #[.agg #[.slice none 0 0, .int .i64 0, .bool false, .int .i64 0, .slice none 0 0], .bool false]) ∧ Below w.heap.size w w' := by
  have hbx := heap_alloc_new w (.cells #[.slice none 0 0, .int .i64 0, .bool false, .int .i64 0, .slice none 0 0] 35)
  go_enter Try.func16, Try.ntmps16
  go_wp2_with (go_at_call 21; (with_reducible refine (left_nil _).mono ?_); rintro r w1 ⟨rfl, rfl⟩)
  exact bodyPost_ret (results_box2 (fn := Try.f16) (p := 2) (u := 3) (ty := 35) rfl _ _ w.heap.size 35 #[.slice none 0 0, .int .i64 0, .bool false, .int .i64 0, .slice none 0 0] (0, 0) _ rfl hbx Try.underlying35 rfl entry5) rfl ⟨rfl, below_alloc' (Below.refl _ _) _⟩
set_option maxHeartbeats 8000000 in
theorem MergeNil_walk (A : Option Addr) (n c : Nat) (key : List UInt8) (w : World) (h : RB w A n key) (hc : n ≤ c) (hsz : n ≤ 140737488351232) : Calls Try.prog 7 #[.slice A n c] w fun e w' => e = .returned (.bool true) ∧ Below w.heap.size w w' := by
  go_enter Try.func7, Try.ntmps7
  go_wp2_with (first
    | (go_at_call 20; (with_reducible refine (seek_nil A n c _).mono ?_); rintro r w1 ⟨rfl, hb1⟩)
    | (go_at_call 16; (with_reducible refine (next_nil _).mono ?_); rintro r w2 ⟨rfl, hb2⟩; have hB2 := below_then hb1 hb2)
    | (go_at_call 21; (with_reducible refine (left_nil _).mono ?_); rintro r w3 ⟨rfl, rfl⟩)
    | (go_at_call 10; (with_reducible refine (awake_any _).mono ?_); rintro r w4 ⟨rfl, hb4⟩))
  all_goals
    go_ret
    exact ⟨rfl, below_then (below_alloc' hB2 _) hb4⟩
end Go.Proofs.Ytnjhiiakpndnnaa
