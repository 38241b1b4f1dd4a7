/- Layer 6: records as long as may be, and longer: the walk. -/
import Derived.Test.YtkcdjmipmpeedaaFrC
namespace Go.Proofs.Ytkcdjmipmpeedaa
open Go.RowKit
set_option linter.unusedVariables false
set_option linter.unusedSimpArgs false

theorem zeros_cells (S : Nat) : (madeCells #[.int .u8 0] S).toList = bys (List.replicate S 0) := by
  apply List.ext_getElem?
  intro i
  simp [madeCells, bys, List.getElem?_replicate]
  by_cases hi : i < S <;> simp [hi, Nat.mod_one]
theorem RB.zeros (w : World) (S : Nat) (hS : S ≤ 9223372036854775807) : RB (w.alloc (.cells (madeCells #[.int .u8 0] S) 5)) (some ⟨w.heap.size, 0, none⟩) S (List.replicate S 0) :=
  RB.lit' w w.heap.size (List.replicate S 0) _ _ _ S rfl (by rw [← zeros_cells]) (by simp) (by simp; exact hS)
theorem OB.lit4 (w : World) (base : Nat) (hb : base ≤ w.heap.size) : OB (w.alloc (.cells #[.int .u8 1, .int .u8 2, .int .u8 3, .int .u8 4] 5)) base (.slice (some ⟨w.heap.size, 0, none⟩) 4 4) [1, 2, 3, 4] := World.ownsRow_lit w #[.int .u8 1, .int .u8 2, .int .u8 3, .int .u8 4] 4 hb (by decide) rfl
set_option maxHeartbeats 8000000 in
set_option maxRecDepth 100000 in
theorem FrameLong_walk (z g0 : Int) (w : World) (hz : (Lit.int .i64 z).wf = true) (hg0 : (Lit.int .u64 g0).wf = true) :
    Calls Try.prog 5 #[.int .i64 z, .int .u64 g0] w fun e w' => e = .returned (.bool true) ∧ Below w.heap.size w w' := by
  have hm := wf_i64 hz
  have hgb := wf_u64 hg0
  obtain ⟨g, rfl⟩ : ∃ g : Nat, g0 = g := ⟨g0.toNat, by omega⟩
  have hg : g < 18446744073709551616 := by omega
  have hmk : ∀ (N : Nat) (u : World), N ≤ 1048577 → (Instr.makeSlice 22 (.int .i64 (N : Int)) (.int .i64 (N : Int))).run Try.prog u = .ok (.slice (some ⟨u.heap.size, 0, none⟩) N N) (u.alloc (.cells (madeCells #[.int .u8 0] N) 5)) := fun N u hN => by
    obtain ⟨i, hi, hz0, hz1, hz2⟩ := info_parts u8info
    have h := run_make (P := Try.prog) u 22 5 i (.int .u8 0) Try.underlying22 hi hz0 .i64 .i64 (N : Int) (N : Int) (by omega) (Int.le_refl _) (by rw [hz2]; omega) (by omega)
    simpa [hz1, Value.cells] using h
  obtain ⟨N, hN1, hN2, hE⟩ : ∃ N : Nat, 1048575 ≤ N ∧ N ≤ 1048577 ∧ wrap64 (wrap64 ((wrap64 (z.tmod 3 + 3)).tmod 3 + 1048576) - 1) = (N : Int) := by
    have h1 := Int.tmod_lt_of_pos z (show (0 : Int) < 3 by decide)
    have h2 := Int.lt_tmod_of_pos z (show (0 : Int) < 3 by decide)
    generalize z.tmod 3 = t at *
    have e1 : wrap64 (t + 3) = t + 3 := by unfold wrap64; omega
    rw [e1]
    have h3 : (t + 3).tmod 3 = (t + 3) % 3 := Int.tmod_eq_emod_of_nonneg (by omega)
    rw [h3]
    refine ⟨((t + 3) % 3 + 1048575).toNat, by omega, by omega, ?_⟩
    unfold wrap64
    omega
  have hmk2 := fun u => hmk N u hN2
  have hrz := RB.zeros w N (by omega)
  have HRZ := hid hrz
  obtain ⟨FB, hFB⟩ : ∃ F, F = fputB [] (List.replicate N 0) := ⟨_, rfl⟩
  have HFB := hid hFB
  obtain ⟨R, U, E, hF⟩ : ∃ a b d, ftakeB ([1, 2, 3, 4] ++ uvar g) = (a, b, d) := ⟨_, _, _, rfl⟩
  have HF := hid hF
  obtain ⟨l, hl⟩ : ∃ l, (uvar g).length = l := ⟨_, rfl⟩
  have hl10 := uvar_len g
  rw [hl] at hl10
  have HL := hid hl
  clear hFB hF hl hmk hrz hm hgb
  go_enter Try.func5, Try.ntmps5
  go_wp2_with (first
    | (go_at_call 8; (with_reducible refine (fput_any none 0 0 [] _ N N _ _ (RB.nil _) HRZ.out (by omega)).mono ?_); rintro e w1 ⟨v1, rfl, hown1, hb1⟩; rw [← HFB.out] at hown1; have hB1 := below_then (below_alloc' (Below.refl w.heap.size w) _) hb1)
    | (go_at_call 9; (with_reducible refine (reffput_any (.slice none 0 0) w1.heap.size [] _ N N _ _ (OB.nil _ _) (Nat.le_refl _) (HRZ.out.below hb1) (by simp)).mono ?_); rintro e w2 ⟨v2, rfl, hown2, hgr2⟩; rw [← HFB.out] at hown2; have hb2 := below_of_none hgr2; have hB2 := below_then hB1 hb2)
    | (go_at_call 16; (with_reducible refine (refput_any (.slice none 0 0) _ [] g _ (OB.nil _ _) (Nat.le_refl _) hg (by simp)).mono ?_); rintro e w3 ⟨v3, rfl, hown3, hgr3, hat3⟩; have hb3 := below_of_none hgr3; rw [List.nil_append] at hown3; obtain ⟨A3, c3, rfl, hr3, hc3⟩ := hown3.openN l HL.out; have hlit := (OB.lit4 w2 w2.heap.size (Nat.le_refl _)).below hb3; have hb3' := below_then (below_alloc' (Below.refl w2.heap.size w2) _) hb3)
    | (at_builtin; refine wpB_append w2 w3 w2.heap.size rfl (.tmp 35) (.tmp 37) rfl _ [1, 2, 3, 4] rfl (by exact hlit) A3 l c3 (uvar g) rfl hr3 (by rw [HL.out]; simp; omega) hb3' hb3'.size ?_; intro v4 w4 hown4 hb4 _ _; obtain ⟨A4, c4, rfl, hr4, hc4⟩ := hown4.openN (4 + l) (by rw [List.length_append, HL.out]; rfl))
    | (go_at_call 11; (with_reducible refine (ftake_any A4 (4 + l) c4 _ _ hr4 hc4 (by omega)).mono ?_); rintro e w5 ⟨v5, rfl, hown5, hb5⟩; rw [HF.out])
    | (go_at_call 12; (with_reducible refine (refftake_any A4 (4 + l) c4 _ _ (hr4.below hb5) hc4 (by omega)).mono ?_); rintro e w6 ⟨v6, rfl, hown6, hb6⟩; rw [HF.out]; have hcv1 := OB.conv (hown1.below (below_then (below_then (below_then hb2 hb4) hb5) hb6)); have hcv2 := OB.conv (hown2.below (below_then (below_then hb4 hb5) hb6)); have hB6 := below_then (below_then (below_then hB2 hb4) hb5) hb6)
    | (go_at_call 10; (with_reducible refine (awake_any _).mono ?_); rintro e w7 ⟨rfl, hb7⟩))
  go_ret
  exact ⟨rfl, below_then hB6 hb7⟩
end Go.Proofs.Ytkcdjmipmpeedaa
