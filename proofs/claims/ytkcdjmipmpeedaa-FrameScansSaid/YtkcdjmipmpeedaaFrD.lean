/- Layer 6: a row of records ends where it ends: the walk of the statement. -/
import Derived.Test.YtkcdjmipmpeedaaFrI
namespace Go.Proofs.Ytkcdjmipmpeedaa
open Go.RowKit
set_option linter.unusedVariables false
set_option linter.unusedSimpArgs false

set_option maxHeartbeats 8000000 in
set_option maxRecDepth 100000 in
theorem FrameScans_walk (A : Option Addr) (n c : Nat) (xss : List (List UInt8)) (z : Int) (w : World) (h : RBs w A n xss) (hc : n ≤ c) (hz : (Lit.int .i64 z).wf = true) :
    Calls Try.prog 6 #[.slice A n c, .int .i64 z] w fun e w' => e = .returned (.bool true) ∧ Below w.heap.size w w' := by
  have hm64 := wf_i64 hz
  clear hz
  by_cases hf : Rows1 n xss
  · have hn20 := hf.1
    have hall := hf.2
    have hxl : xss.length = n := h.1
    obtain ⟨L, hL⟩ : ∃ L, (catF xss n).length = L := ⟨_, rfl⟩
    have hL2 := catF_len hall n (Nat.le_refl _)
    rw [hL] at hL2
    obtain ⟨C, hCL, hE⟩ : ∃ C : Nat, C ≤ L ∧ (wrap64 (wrap64 (z.tmod ((L : Int) + 1) + (L : Int)) + 1)).tmod ((L : Int) + 1) = (C : Int) := by
      have h1 := Int.tmod_lt_of_pos z (show (0 : Int) < (L : Int) + 1 by omega)
      have h2 := Int.lt_tmod_of_pos z (show (0 : Int) < (L : Int) + 1 by omega)
      generalize z.tmod ((L : Int) + 1) = t at *
      have e1 : wrap64 (t + (L : Int)) = t + (L : Int) := by unfold wrap64; omega
      have e2 : wrap64 (t + (L : Int) + 1) = t + (L : Int) + 1 := by unfold wrap64; omega
      rw [e1, e2, Int.tmod_eq_emod_of_nonneg (by omega)]
      have h3 := Int.emod_nonneg (t + (L : Int) + 1) (show (L : Int) + 1 ≠ 0 by omega)
      have h4 := Int.emod_lt_of_pos (t + (L : Int) + 1) (show (0 : Int) < (L : Int) + 1 by omega)
      exact ⟨((t + (L : Int) + 1) % ((L : Int) + 1)).toNat, by omega, by omega⟩
    obtain ⟨m, hmn, hm1, hm2⟩ := whole_ones xss n C
    have hscan := scan_cutoff hxl hall hmn hm1 hm2 (by rw [hL]; exact hCL)
    have hcmp : ∀ i, i < n → ((catF xss (i + 1)).length ≤ C ↔ i + 1 ≤ m) := by
      intro i hi
      constructor
      · intro hle
        rcases Nat.lt_or_ge i m with h1 | h1
        · omega
        · rcases hm2 with h2 | h2
          · omega
          · have := catF_mono xss (show m + 1 ≤ i + 1 by omega)
            omega
      · intro hle
        have := catF_mono xss hle
        omega
    have hnm : (L : Int) + 1 ≠ 0 := by omega
    have HF := hid hf
    have HX := hid hxl
    have HLL := hid hL
    have HSC := hid hscan
    have HCMP := hid hcmp
    have H := hid h
    have HSELF := hid (sameB_self (xss.take m))
    have HTL := hid (show (xss.take m).length = m by rw [List.length_take]; omega)
    clear hf hall hxl hL hscan hm1 hm2 hcmp h
    go_enter Try.func6, Try.ntmps6
    go_wp2_with (go_at_call 17; (with_reducible refine (rows_yes A n c xss _ H.out HF.out).mono ?_); rintro e w1 ⟨v1, ve, rfl, hown1, hoi1, hb1⟩; obtain ⟨A1, c1, rfl, hr1, hc1⟩ := hown1.openN L HLL.out; obtain ⟨Ae, ce, rfl, hce⟩ := hoi1.slice n (endsL_len _ _))
    go_loop [8, 9, 43] (fun nn en i => ∃ k : Nat, k ≤ n ∧ i = .int .i64 k ∧ nn = .int .i64 (min k m : Nat) ∧ en = .int .i64 ((catF xss (min k m)).length : Nat)) (fun nn en i => n - (intOf i).toNat)
    case atStart => exact ⟨0, Nat.zero_le _, rfl, by simp, by simp [catF]⟩
    case round =>
      obtain ⟨k, hk, rfl, rfl, rfl⟩ := hrel
      by_cases hlt : k < n
      · obtain ⟨g, d, e1, _, _, _⟩ := hoi1.form n (endsL_len _ _) (by omega)
        cases e1
        have hcl := hoi1.cell (endsL_len _ _) hlt
        rw [endsL_at hlt] at hcl
        have hcm := HCMP.out k hlt
        obtain ⟨X, hX⟩ : ∃ X, (catF xss (k + 1)).length = X := ⟨_, rfl⟩
        obtain ⟨Y, hY⟩ : ∃ Y, (catF xss (min k m)).length = Y := ⟨_, rfl⟩
        obtain ⟨q, hq⟩ : ∃ q, q = min k m := ⟨_, rfl⟩
        rw [hX] at hcl hcm
        rw [hY, ← hq]
        have HXX := hid hX
        have HYY := hid hY
        have HQ := hid hq
        clear hX hY hq
        by_cases hle : k + 1 ≤ m
        · have hXC : (X : Int) ≤ (C : Int) := by have := hcm.2 hle; omega
          have hqk : q = k := by have := HQ.out; omega
          clear hcm
          go_wp2
          go_round
          case rel => exact ⟨k + 1, by omega, by go_num, by rw [Nat.min_eq_left hle]; go_num, by rw [Nat.min_eq_left hle, HXX.out]⟩
          case measure => simp [intOf]; omega
        · have hXC : ¬ ((X : Int) ≤ (C : Int)) := by
            intro hh
            exact hle (hcm.1 (by omega))
          clear hcm
          go_wp2
          go_round
          case rel => exact ⟨k + 1, by omega, by go_num, by rw [show min (k + 1) m = min k m from by omega, HQ.out], by rw [show min (k + 1) m = min k m from by omega, HYY.out]⟩
          case measure => simp [intOf]; omega
      · obtain rfl : k = n := by omega
        have hmin : min k m = m := by omega
        rw [hmin]
        obtain ⟨Y, hY⟩ : ∃ Y, (catF xss m).length = Y := ⟨_, rfl⟩
        rw [hY]
        have HYY := hid hY
        clear hY hmin
        obtain ⟨c2, hsl, hrs, hc2⟩ := cutB_hi (A := A1) (n := L) (c := c1) hc1 (hi := C) hCL (C : Int) rfl
        obtain ⟨c3, hsl3, hrs3, hc3⟩ := cutS_hi (A := A) (n := k) (c := c) hc (hi := m) hmn (m : Int) rfl
        have hr2 := hrs _ _ hr1
        have hr3 := hrs3 _ _ (H.out.below hb1)
        clear hrs hrs3
        go_wp2_with (first
          | (go_at_call 13; (with_reducible refine (fscan_any A1 C c2 _ _ hr2 hc2 (by omega)).mono ?_); rintro e w2 ⟨v2, V2, rfl, hos2, hobs2, hb2⟩; rw [HSC.out] at hobs2 ⊢; rw [HYY.out]; obtain ⟨A4, c4, rfl, hrs4, hc4⟩ := own_rows hos2 hobs2 m HTL.out (by omega))
          | (go_at_call 15; (with_reducible refine (same_any A4 m c4 (xss.take m) A m c3 (xss.take m) _ hrs4 (hr3.below hb2)).mono ?_); rintro e w5 ⟨rfl, hb5⟩; rw [HSELF.out])
          | (go_at_call 10; (with_reducible refine (awake_any _).mono ?_); rintro e w6 ⟨rfl, hb6⟩))
        go_ret
        exact ⟨rfl, below_then (below_then (below_then hb1 hb2) hb5) hb6⟩
  · have HF := hid hf
    clear hf
    go_enter Try.func6, Try.ntmps6
    go_wp2_with (first
      | (go_at_call 17; (with_reducible refine (rows_no A n c xss _ h HF.out).mono ?_); rintro e w1 ⟨rfl, hb1⟩)
      | (go_at_call 10; (with_reducible refine (awake_any _).mono ?_); rintro e w4 ⟨rfl, hb4⟩))
    go_ret
    exact ⟨rfl, below_then hb1 hb4⟩
end Go.Proofs.Ytkcdjmipmpeedaa
