/- Layer 2: written and read: the walk of the statement. -/
import Derived.Test.YtbjpbnflioiccaaVintJ
namespace Go.Proofs.Ytbjpbnflioiccaa
open Go.RowKit
set_option linter.unusedVariables false
set_option linter.unusedSimpArgs false

set_option maxHeartbeats 8000000 in
set_option maxRecDepth 100000 in
theorem VintBack_walk (g0 z : Int) (A : Option Addr) (n c : Nat) (xs : List UInt8) (w : World) (hg0 : (Lit.int .u64 g0).wf = true) (hz : (Lit.int .i64 z).wf = true) (h : RB w A n xs) (hc : n ≤ c) (hsz : n ≤ 140737488351232) :
    Calls Try.prog 9 #[.int .u64 g0, .int .i64 z, .slice A n c] w fun e w' => e = .returned (.bool true) ∧ Below w.heap.size w w' := by
  have hgb := wf_u64 hg0
  have hm := wf_i64 hz
  obtain ⟨g, rfl⟩ : ∃ g : Nat, g0 = g := ⟨g0.toNat, by omega⟩
  clear hg0 hz
  have hg : g < 18446744073709551616 := by omega
  clear hgb
  have hl := h.1
  have HL := hid hl
  clear hl
  obtain ⟨m, hml⟩ : ∃ m, (uvar g).length = m := ⟨_, rfl⟩
  have hm1 := uvar_pos g
  have hm10 := uvar_len g
  rw [hml] at hm1 hm10
  have HM := hid hml
  clear hml
  have HT := hid (takeU_uvar hg xs)
  go_enter Try.func9, Try.ntmps9
  go_wp2_with (first
    | (go_at_call 13; (with_reducible refine (put_any none 0 0 [] g _ ((OB.nil _ 0).rb.1) hg (by omega)).mono ?_); rintro e w1 ⟨v1, rfl, hown1, hb1⟩; obtain ⟨A1, c1, rfl, hr1, hc1⟩ := hown1.openN m (by rw [List.nil_append]; exact HM.out); rw [List.nil_append] at hr1)
    | (at_builtin; refine wpB_append w1 _ w1.heap.size rfl (.tmp 27) (.tmp 28) rfl _ [] rfl (OB.empty _ _ (Nat.le_refl _)) A1 m c1 (uvar g) rfl (hr1.alloc _) (by rw [HM.out]; simp; omega) (below_alloc' (Below.refl _ _) _) (below_alloc' (Below.refl _ _) _).size ?_; intro v2 w2 hown2 hb2 _ _)
    | (at_builtin; refine wpB_append w1 _ w1.heap.size rfl (.tmp 29) (.tmp 30) rfl _ _ rfl hown2 A n c xs rfl (h.below (below_then hb1 hb2)) (by rw [HL.out, List.nil_append, HM.out]; omega) hb2 hb2.size ?_; intro v3 w3 hown3 hb3 _ _; obtain ⟨A3, c3, rfl, hr3, hc3⟩ := hown3.openN (m + n) (by rw [List.nil_append, List.length_append, HM.out, HL.out]); have hq3 := take_any A3 (m + n) c3 _ _ hr3; rw [List.nil_append, HT.out, HM.out] at hq3; have HQ3 := hid hq3; clear hq3; have hr1b := hr1.below hb3)
    | (go_at_call 11; refine (HQ3.out).mono ?_; rintro e w4 ⟨rfl, rfl⟩)
    | (go_at_call 15; (with_reducible refine (len_any g _ hg).mono ?_); rintro e w5 ⟨rfl, rfl⟩; rw [HM.out]))
  have hB3 := below_then hb1 hb3
  clear hb1 hb2 hb3 hr1 hown1 hown2 hown3 hr3 HQ3
  have hm63 : (m : Int) ≤ 10 := by omega
  go_loop [57] (fun i => ∃ k : Nat, k ≤ m ∧ i = .int .i64 k) (fun i => m - (intOf i).toNat)
  case atStart => exact ⟨0, Nat.zero_le _, rfl⟩
  case round =>
    obtain ⟨k, hk, rfl⟩ := hrel
    by_cases hlt : k < m
    · obtain ⟨c2, hsl, hrs, hc2⟩ := cutB_hi (A := A1) (n := m) (c := c1) hc1 (hi := k) (by omega) (k : Int) rfl
      have hq := take_any A1 k c2 _ _ (hrs _ _ hr1b)
      rw [takeU_cut hg (by rw [HM.out]; exact hlt)] at hq
      have HQ := hid hq
      clear hq
      go_wp2_with (go_at_call 11; refine (HQ.out).mono ?_; rintro e w4 ⟨rfl, rfl⟩)
      go_round
      case rel => exact ⟨k + 1, by omega, by go_num⟩
      case measure => simp [intOf]; omega
    · obtain rfl : k = m := by omega
      by_cases hlen : z < 0 ∨ 268435455 < z
      · have e1 : lenB z = [] := by unfold lenB; rw [if_pos hlen]
        have e2 : lenE z = 1 := by unfold lenE; rw [if_pos hlen]
        have HE1 := hid e1
        have HE2 := hid e2
        clear e1 e2
        go_wp2_with (first
          | (go_at_call 28; (with_reducible refine (length_any z _ hm).mono ?_); rintro e w6 ⟨v6, rfl, hown6, hb6⟩; rw [HE1.out] at hown6; rw [HE2.out]; obtain ⟨A6, c6, rfl, hr6, hc6⟩ := hown6.openN 0 rfl)
          | (go_at_call 17; (with_reducible refine (awake_any _).mono ?_); rintro e w7 ⟨rfl, hb7⟩))
        all_goals
          go_ret
          exact ⟨rfl, below_then (below_then hB3 hb6) hb7⟩
      · obtain ⟨G, rfl⟩ : ∃ G : Nat, z = G := ⟨z.toNat, by omega⟩
        have hG : G < 268435456 := by omega
        have e1 : lenB (G : Int) = uvar G := by unfold lenB; rw [if_neg hlen]; rfl
        have e2 : lenE (G : Int) = 0 := by unfold lenE; rw [if_neg hlen]
        have HE1 := hid e1
        have HE2 := hid e2
        have z0 : ¬ ((G : Int) < 0) := by omega
        have z1 : ¬ ((268435455 : Int) < (G : Int)) := by omega
        clear e1 e2 hlen
        obtain ⟨p, hpl⟩ : ∃ p, (uvar G).length = p := ⟨_, rfl⟩
        have hp1 := uvar_pos G
        have hp10 := uvar_len G
        rw [hpl] at hp1 hp10
        have HP := hid hpl
        clear hpl
        have HT2 := hid (takeL_uvar hG xs)
        clear hr1b hc1
        go_wp2_with (first
          | (go_at_call 28; (with_reducible refine (length_any (G : Int) _ hm).mono ?_); rintro e w6 ⟨v6, rfl, hown6, hb6⟩; rw [HE1.out] at hown6; rw [HE2.out]; obtain ⟨A6, c6, rfl, hr6, hc6⟩ := hown6.openN p HP.out; have hB6 := below_then hB3 hb6)
          | (at_builtin; refine wpB_append w6 _ w6.heap.size rfl (.tmp 93) (.tmp 94) rfl _ [] rfl (OB.empty _ _ (Nat.le_refl _)) A6 p c6 (uvar G) rfl (hr6.alloc _) (by rw [HP.out]; simp; omega) (below_alloc' (Below.refl _ _) _) (below_alloc' (Below.refl _ _) _).size ?_; intro v7 w7 hown7 hb7 _ _)
          | (at_builtin; refine wpB_append w6 _ w6.heap.size rfl (.tmp 95) (.tmp 96) rfl _ _ rfl hown7 A n c xs rfl (h.below (below_then hB6 hb7)) (by rw [HL.out, List.nil_append, HP.out]; omega) hb7 hb7.size ?_; intro v8 w8 hown8 hb8 _ _; obtain ⟨A8, c8, rfl, hr8, hc8⟩ := hown8.openN (p + n) (by rw [List.nil_append, List.length_append, HP.out, HL.out]); have hq8 := takelen_any A8 (p + n) c8 _ _ hr8; rw [List.nil_append, HT2.out, HP.out] at hq8; have HQ8 := hid hq8; clear hq8; have hr6b := hr6.below hb8)
          | (go_at_call 26; refine (HQ8.out).mono ?_; rintro e w9 ⟨rfl, rfl⟩))
        have hB8 := below_then hB6 hb8
        clear hb6 hB6 hb7 hb8 hr6 hown6 hown7 hown8 hr8 HQ8
        go_loop [104] (fun i => ∃ j : Nat, j ≤ p ∧ i = .int .i64 j) (fun i => p - (intOf i).toNat)
        case atStart => exact ⟨0, Nat.zero_le _, rfl⟩
        case round =>
          obtain ⟨j, hj, rfl⟩ := hrel
          by_cases hjt : j < p
          · obtain ⟨c2, hsl, hrs, hc2⟩ := cutB_hi (A := A6) (n := p) (c := c6) hc6 (hi := j) (by omega) (j : Int) rfl
            have hq := takelen_any A6 j c2 _ _ (hrs _ _ hr6b)
            rw [takeL_cut hG (by rw [HP.out]; exact hjt)] at hq
            have HQ := hid hq
            clear hq
            go_wp2_with (go_at_call 26; refine (HQ.out).mono ?_; rintro e w4 ⟨rfl, rfl⟩)
            go_round
            case rel => exact ⟨j + 1, by omega, by go_num⟩
            case measure => simp [intOf]; omega
          · obtain rfl : j = p := by omega
            go_wp2_with (go_at_call 17; (with_reducible refine (awake_any _).mono ?_); rintro e w7 ⟨rfl, hb7⟩)
            go_ret
            exact ⟨rfl, below_then hB8 hb7⟩
end Go.Proofs.Ytbjpbnflioiccaa
