/- Layer 8: a batch comes back, whole or not at all: the walk of the statement. -/
import Derived.Test.YtdhmonomhifkkaaBaDe
namespace Go.Proofs.Ytdhmonomhifkkaa
open Go.RowKit
set_option linter.unusedVariables false
set_option linter.unusedSimpArgs false

theorem DecC.get {w' : World} {X : List UInt8} {v : Value} {s : Int} {ops : List OpR} {n : Nat} (h : DecC w' X v) (hd : decR X = (s.toNat, ops, 0)) (hs : 0 ≤ s) (hn : ops.length = n) : ∃ A c, v = .agg #[.int .i64 s, .slice A n c] ∧ ROps w' A n ops := by
  subst hn
  have h := h.2
  rw [hd] at h
  obtain ⟨A, c, e, hr, _⟩ := h rfl
  refine ⟨A, c, ?_, hr⟩
  rw [e]
  show Value.agg #[.int .i64 ((s.toNat : Nat) : Int), .slice A ops.length c] = _
  rw [show ((s.toNat : Nat) : Int) = s by omega]
theorem encB_len {s : Int} {ops : List OpR} (h : mayE s ops = 0) : 0 < (encB s ops).length ∧ (encB s ops).length ≤ 1100000 := by
  obtain ⟨m1, m2, m3, m4, m5⟩ := mayE_zero h
  have e := accB_len m5 (s := s) ops.length (Nat.le_refl _)
  have e2 := uvar_pos s.toNat
  constructor
  · rw [enc_flat h, List.length_append]; omega
  · unfold encB
    rw [if_pos h]
    omega
theorem cut_mod (z : Int) (m : Nat) (hm : 1 ≤ m ∧ m ≤ 4000000) (hz : -9223372036854775808 ≤ z ∧ z ≤ 9223372036854775807) : ∃ p : Nat, p < m ∧ (wrap64 (z.tmod m + m)).tmod m = (p : Int) := by
  have h1 := Int.tmod_lt_of_pos z (show (0 : Int) < m by omega)
  have h2 := Int.lt_tmod_of_pos z (show (0 : Int) < m by omega)
  generalize z.tmod m = t at *
  have e1 : wrap64 (t + m) = t + m := by unfold wrap64; omega
  have h3 : (t + m).tmod m = (t + m) % m := Int.tmod_eq_emod_of_nonneg (by omega)
  have h4 := Int.emod_lt_of_pos (t + m) (show (0 : Int) < m by omega)
  have h5 := Int.emod_nonneg (t + m) (show (m : Int) ≠ 0 by omega)
  rw [e1, h3]
  exact ⟨((t + m) % m).toNat, by omega, by omega⟩
set_option maxHeartbeats 16000000 in
set_option maxRecDepth 100000 in
theorem BatchBack_walk (s : Int) (A : Option Addr) (n c : Nat) (ops : List OpR) (z : Int) (A' : Option Addr) (m c' : Nat) (more : List UInt8) (w : World) (h : ROps w A n ops) (hs : -9223372036854775808 ≤ s ∧ s ≤ 9223372036854775807) (hz : (Lit.int .i64 z).wf = true) (h' : RB w A' m more) (hc' : m ≤ c') (hsz' : m ≤ 1048576) :
    Calls Try.prog 6 #[.agg #[.int .i64 s, .slice A n c], .int .i64 z, .slice A' m c'] w fun e w' => e = .returned (.bool true) ∧ Below w.heap.size w w' := by
  have hn := h.1
  have hml := h'.1
  have hz2 := wf_i64 hz
  have HH := hid (h.below (below_alloc' (Below.refl _ _) (.cells #[.int .i64 s, .slice A n c] 24)))
  have HR := hid h'
  clear h hz
  by_cases hE : mayE s ops = 0
  · obtain ⟨m1, m2, m3, m4, _⟩ := mayE_zero hE
    obtain ⟨X, hX⟩ : ∃ X, encB s ops = X := ⟨_, rfl⟩
    obtain ⟨l1, l2⟩ := encB_len hE
    have d1 := dec_more hE []
    have d2 := dec_more hE more
    have d3 := fun i => dec_cut hE (i := i)
    rw [hX] at l1 l2 d1 d2
    simp only [hX] at d3
    rw [List.append_nil] at d1
    obtain ⟨N, hN⟩ : ∃ N, X.length = N := ⟨_, rfl⟩
    rw [hN] at l1 l2
    obtain ⟨p, hp1, hp2⟩ := cut_mod z N ⟨by omega, by omega⟩ hz2
    have hNz : ¬ (N : Int) = 0 := by omega
    have hN0 : ((N : Int) == 0) = false := by rw [beq_eq_false_iff_ne]; omega
    have d4 := d3 p (by omega)
    obtain ⟨e4, he4⟩ : ∃ e4, (decR (X.take p)).2.2 = e4 := ⟨_, rfl⟩
    rw [he4] at d4
    have d4b : (e4 == 0) = false := by rw [beq_eq_false_iff_ne]; exact d4
    obtain ⟨e5, he5⟩ : ∃ e5 : Int, e5 = if more.length = 0 then 0 else 3 := ⟨_, rfl⟩
    have d2e : Hid ((decR (X ++ more)).2.2 = e5) := by unfold Hid; rw [d2, he5]
    have d5 : ((e5 == 0) == ((m : Int) == 0)) = true := by
      rw [he5, hml]
      by_cases h0 : m = 0
      · subst h0; rfl
      · have : ((m : Int) == 0) = false := by rw [beq_eq_false_iff_ne]; omega
        rw [if_neg h0, this]; rfl
    have HE := hid hE
    have HX := hid hX
    have HN := hid hN
    have HD := hid (show decR X = (s.toNat, ops, 0) from d1)
    have HC := hid he4
    clear hE hX hN d1 d2 d3 d4 he4 he5
    have cutx := fun (A3 : Option Addr) (c3 : Nat) (hc3 : N ≤ c3) => cutB_hi (A := A3) hc3 (Nat.le_of_lt hp1) (p : Int) rfl
    have HCUT := hid cutx
    clear cutx
    go_enter Try.func6, Try.ntmps6
    go_wp2_with (first
      | (go_at_call 12; (with_reducible refine (heavy_any s A n c ops _ HH.out hs).mono ?_); rintro e w1 ⟨⟨b, rfl⟩, hbx⟩; have hbk1 := blk_below hbx (heap_alloc_new w _); have hx0 := box_at hbk1 0 (.int .i64 s) rfl; have hx1 := box_at hbk1 1 (.slice A n c) rfl; have hO1 := HH.out.below hbx; have hb1 := below_then (below_alloc' (Below.refl _ _) _) hbx)
      | (go_at_call 11; (with_reducible refine (awake_any _).mono ?_); rintro e w2 ⟨rfl, hbz⟩)
      | (go_at_call 9; (with_reducible refine (may_any s A n c ops _ hO1 hs).mono ?_); rintro e w2 ⟨rfl, hb2⟩; rw [HE.out]; have hbk2 := blk_below hb2 hbk1; have hx2 := box_at hbk2 0 (.int .i64 s) rfl; have hx3 := box_at hbk2 1 (.slice A n c) rfl; have hO2 := hO1.below hb2; have hb2 := below_then hb1 hb2)
      | (go_at_call 7; (with_reducible refine (encode_any s A n c ops _ hO2 hs).mono ?_); rintro e w3 ⟨v3, rfl, hown3, hb3⟩; rw [HE.out]; rw [HX.out] at hown3; obtain ⟨A3, c3, rfl, hr3, hc3⟩ := hown3.openN N HN.out; obtain ⟨c4, hcut, hcr, hc4⟩ := HCUT.out A3 c3 hc3; have hbk3 := blk_below hb3 hbk2; have hO3 := hO2.below hb3; have hb3 := below_then hb2 hb3)
      | (go_at_call 16; (with_reducible refine (decode_any A3 N c3 X _ hr3 hc3 (by omega)).mono ?_); rintro e w4 ⟨v4, rfl, hC4, hb4⟩; obtain ⟨A5, c5, rfl, hO4⟩ := hC4.get HD.out (by omega) hn; rw [HD.out]; have hbk4 := blk_below (below_then hb4 (below_alloc' (Below.refl _ _) (.cells #[.int .i64 s, .slice A5 n c5] 24))) hbk3; have hx4 := box_at hbk4 0 (.int .i64 s) rfl; have hx5 := box_at hbk4 1 (.slice A n c) rfl; have hO5 := (hO3.below hb4).below (below_alloc' (Below.refl _ _) (.cells #[.int .i64 s, .slice A5 n c5] 24)); have hO6 := hO4.below (below_alloc' (Below.refl _ _) (.cells #[.int .i64 s, .slice A5 n c5] 24)); have hr4 := (hr3.below hb4).alloc (.cells #[.int .i64 s, .slice A5 n c5] 24); have hb4 := below_alloc' (below_then hb3 hb4) (.cells #[.int .i64 s, .slice A5 n c5] 24))
      | (go_at_call 17; (with_reducible refine (samebatch_any s A5 c5 A c n ops _ hO6 hO5).mono ?_); rintro e w5 ⟨rfl, hb5⟩; have hr5 := hr4.below hb5; have hr6 := hcr _ _ hr5; have hb5 := below_then hb4 hb5)
      | (go_at_call 16; (with_reducible refine (decode_any A3 p c4 (X.take p) _ hr6 hc4 (by omega)).mono ?_); rintro e w6 ⟨v6, rfl, hC6, hb6⟩; obtain ⟨x6, A6, n6, c6, rfl⟩ := hC6.1; rw [HC.out]; have hr7 := (hr5.below hb6).alloc (.cells #[.int .i64 x6, .slice A6 n6 c6] 24); have hb6 := below_alloc' (below_then hb5 hb6) (.cells #[.int .i64 x6, .slice A6 n6 c6] 24); have hm6 := HR.out.below hb6)
      | (at_builtin; go_loud (refine wpB_append w _ w.heap.size rfl (.tmp 70) (.tmp 71) rfl _ [] rfl (OB.empty' _ _ _ (by simp) hb6.size) A3 N c3 X rfl (hr7.alloc _) (by rw [HN.out]; simp; omega) (below_alloc' hb6 _) (below_alloc' hb6 _).size ?_); intro v7 w7 hown7 hB7 hg7 _; rw [List.nil_append] at hown7; have hm7 := HR.out.below hB7)
      | (at_builtin; go_loud (refine wpB_append w _ w.heap.size rfl (.tmp 72) (.tmp 73) rfl v7 X rfl hown7 A' m c' more rfl hm7 (by rw [HN.out, hml]; omega) hB7 hB7.size ?_); intro v8 w8 hown8 hB8 hg8 _; obtain ⟨A8, c8, rfl, hr8, hc8⟩ := hown8.openN (N + m) (by rw [List.length_append, HN.out, hml]))
      | (go_at_call 16; (with_reducible refine (decode_any A8 (N + m) c8 (X ++ more) _ hr8 hc8 (by omega)).mono ?_); rintro e w9 ⟨v9, rfl, hC9, hb9⟩; obtain ⟨x9, A9, n9, c9, rfl⟩ := hC9.1; rw [d2e.out]; have hb9 := below_alloc' (below_then hB8 hb9) (.cells #[.int .i64 x9, .slice A9 n9 c9] 24)))
    · go_ret
      exact ⟨rfl, below_then hb1 hbz⟩
    · go_ret
      exact ⟨rfl, below_then hb9 hbz⟩
  · obtain ⟨E, hE2⟩ : ∃ E, mayE s ops = E := ⟨_, rfl⟩
    rw [hE2] at hE
    have hE3 : (E != 0) = true := by simpa using hE
    have HE := hid hE2
    clear hE hE2
    go_enter Try.func6, Try.ntmps6
    go_wp2_with (first
      | (go_at_call 12; (with_reducible refine (heavy_any s A n c ops _ HH.out hs).mono ?_); rintro e w1 ⟨⟨b, rfl⟩, hbx⟩; have hbk1 := blk_below hbx (heap_alloc_new w _); have hx0 := box_at hbk1 0 (.int .i64 s) rfl; have hx1 := box_at hbk1 1 (.slice A n c) rfl; have hO1 := HH.out.below hbx; have hb1 := below_then (below_alloc' (Below.refl _ _) _) hbx; cases b)
      | (go_at_call 11; (with_reducible refine (awake_any _).mono ?_); rintro e w3 ⟨rfl, hbz⟩)
      | (go_at_call 9; (with_reducible refine (may_any s A n c ops _ hO1 hs).mono ?_); rintro e w2 ⟨rfl, hb2⟩; rw [HE.out]; have hb1 := below_then hb1 hb2))
    all_goals
      go_ret
      exact ⟨rfl, below_then hb1 hbz⟩
end Go.Proofs.Ytdhmonomhifkkaa
