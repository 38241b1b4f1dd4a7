/- Layer 6: any bytes as a record, as records; records as long as may be: the walks. -/
import Derived.Test.YtkcdjmipmpeedaaFrB
import Derived.Laws.MakeOwn
namespace Go.Proofs.Ytkcdjmipmpeedaa
open Go.RowKit
set_option linter.unusedVariables false
set_option linter.unusedSimpArgs false

theorem sameB_self (xss : List (List UInt8)) : sameB xss xss = true := by simp [sameB]
theorem scanF_len : ∀ (f : Nat) (xs : List UInt8), 5 * (scanF f xs).1.length ≤ xs.length := by
  intro f
  induction f with
  | zero => intro xs; simp [scanF]
  | succ f ih =>
    intro xs
    by_cases h0 : xs = []
    · rw [scanF_end h0]; simp
    · by_cases h1 : (ftakeB xs).2.2 = 0
      · have hu := ftakeB_used xs h1
        have := ih (xs.drop (ftakeB xs).2.1)
        rw [scanF_next h0 h1]
        rw [List.length_drop] at this
        simp only [List.length_cons]
        omega
      · rw [scanF_stop h1]; simp
theorem scan_len (xs : List UInt8) : (scanB xs).1.length ≤ xs.length := by
  have := scanF_len (xs.length + 1) xs
  unfold scanB
  omega
set_option maxHeartbeats 8000000 in
set_option maxRecDepth 100000 in
theorem FrameTakes_walk (A : Option Addr) (n c : Nat) (xs : List UInt8) (w : World) (h : RB w A n xs) (hc : n ≤ c) (hsz : n ≤ 1048576) :
    Calls Try.prog 4 #[.slice A n c] w fun e w' => e = .returned (.bool true) ∧ Below w.heap.size w w' := by
  have hl := h.1
  obtain ⟨R, N, E, hF⟩ : ∃ a b d, ftakeB xs = (a, b, d) := ⟨_, _, _, rfl⟩
  obtain ⟨recs, stop, hS⟩ : ∃ a b, scanB xs = (a, b) := ⟨_, _, rfl⟩
  have hrl : recs.length ≤ n := by
    have := scan_len xs
    rw [hS] at this
    rw [← hl]
    exact this
  obtain ⟨m, hm⟩ : ∃ m, recs.length = m := ⟨_, rfl⟩
  rw [hm] at hrl
  have HM := hid hm
  have HF := hid hF
  have HS := hid hS
  have HSELF := hid (sameB_self recs)
  clear hl hF hS hm
  go_enter Try.func4, Try.ntmps4
  go_wp2_with (first
    | (go_at_call 11; (with_reducible refine (ftake_any A n c xs _ h hc (by omega)).mono ?_); rintro e w1 ⟨v1, rfl, hown1, hb1⟩; rw [HF.out] at hown1 ⊢)
    | (go_at_call 12; (with_reducible refine (refftake_any A n c xs _ (h.below hb1) hc (by omega)).mono ?_); rintro e w2 ⟨v2, rfl, hown2, hb2⟩; rw [HF.out] at hown2 ⊢; have hB2 := below_then hb1 hb2)
    | (go_at_call 13; (with_reducible refine (fscan_any A n c xs _ (h.below hB2) hc (by omega)).mono ?_); rintro e w3 ⟨v3, V3, rfl, hos3, hobs3, hb3⟩; rw [HS.out] at hobs3 ⊢; have hB3 := below_then hB2 hb3; obtain ⟨A3, c3, rfl, hrs3, hc3⟩ := own_rows hos3 hobs3 m HM.out (by omega))
    | (go_at_call 14; (with_reducible refine (refscan_any A n c xs _ (h.below hB3) hc (by omega)).mono ?_); rintro e w4 ⟨v4, V4, rfl, hos4, hobs4, hb4⟩; rw [HS.out] at hobs4 ⊢; have hB4 := below_then hB3 hb4; obtain ⟨A4, c4, rfl, hrs4, hc4⟩ := own_rows hos4 hobs4 m HM.out (by omega); have hcv1 := OB.conv (hown1.below (below_then (below_then hb2 hb3) hb4)); have hcv2 := OB.conv (hown2.below (below_then hb3 hb4)))
    | (go_at_call 15; (with_reducible refine (same_any A3 m c3 recs A4 m c4 recs _ (hrs3.below hb4) hrs4).mono ?_); rintro e w5 ⟨rfl, hb5⟩; rw [HSELF.out])
    | (go_at_call 10; (with_reducible refine (awake_any _).mono ?_); rintro e w6 ⟨rfl, hb6⟩))
  go_ret
  exact ⟨rfl, below_then (below_then hB4 hb5) hb6⟩
end Go.Proofs.Ytkcdjmipmpeedaa
