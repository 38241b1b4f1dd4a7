/- Layer 2: the walk of VintFixed. -/
import Derived.Test.YtbjpbnflioiccaaVintL
namespace Go.Proofs.Ytbjpbnflioiccaa
open Go.RowKit
set_option linter.unusedVariables false
set_option linter.unusedSimpArgs false

set_option maxHeartbeats 8000000 in
set_option maxRecDepth 100000 in
theorem VintFixed_walk0 (A : Option Addr) (n c : Nat) (xs : List UInt8) (g : Nat) (size : Int) (w : World) (h : RB w A n xs) (hc : n ≤ c) (hsz : n ≤ 140737488351232) (hg : g < 18446744073709551616) (hm : -9223372036854775808 ≤ size ∧ size ≤ 9223372036854775807) :
    Calls Try.prog 4 #[.slice A n c, .int .u64 (g : Int), .int .i64 size] w fun e w' => e = .returned (.bool true) ∧ Below w.heap.size w w' := by
  have hl := h.1
  have HL := hid hl
  clear hl
  obtain ⟨tv, tu, hT⟩ : ∃ a b, readB xs size = (a, b) := ⟨_, _, rfl⟩
  have HC1 := read_any A n c xs size w h hc hm
  have HC2 := refread_any A n c xs size w h hc hm
  rw [hT] at HC1 HC2
  have HD1 := hid HC1
  have HD2 := hid HC2
  have HM := hid hm
  clear HC1 HC2 hT hm
  go_enter Try.func4, Try.ntmps4
  go_wp2_with (first
    | (go_at_call 18; refine (HD1.out).mono ?_; rintro e w' ⟨rfl, rfl⟩)
    | (go_at_call 19; refine (HD2.out).mono ?_; rintro e w' ⟨rfl, rfl⟩))
  apply wp_region_txt [none, none, none, none, none, none, some 26, none, none, none, none, none, none, none, none, none, none, none, none, none, none, none, none, some 0, some 1, some 2, some 3, some 4, some 5, some 6, some 7, some 8, some 9, some 10, some 11, some 12, some 13, some 14, some 15, some 16, some 17, some 18, some 19, some 20, some 21, some 22, some 23, some 24, some 25] [12, 14, 16, 19] [(14, 16), (16, 19)] [_, _, _, _, _, _, _, _, _, _, _, _, undef, _, undef, _, undef, _, _, undef, _, _, _, _, _, _, _] [[], [], [], [], [], [], [], [], [], [], [], [], _, [], _, [], _, [], [], _, [], [], [], [], [], [], []]
  case hm => rfl
  case hs => rfl
  case hst => kernel_rfl
  case hput => exact OpsOK.cons (fun _ _ => rfl) (OpsOK.cons (fun _ _ => rfl) (OpsOK.cons (fun _ _ => rfl) (OpsOK.cons (fun _ _ => rfl) (OpsOK.cons (fun _ _ => rfl) (OpsOK.cons (fun _ _ => rfl) (OpsOK.cons (fun _ _ => rfl) (OpsOK.cons (fun _ _ => rfl) (OpsOK.cons (fun _ _ => rfl) (OpsOK.cons (fun _ _ => rfl) (OpsOK.cons (fun _ _ => rfl) (OpsOK.cons (fun _ _ => rfl) (OpsOK.cons (fun _ _ => rfl) (OpsOK.cons (fun _ _ => rfl) (OpsOK.cons (fun _ _ => rfl) (OpsOK.cons (fun _ _ => rfl) (OpsOK.cons (fun _ _ => rfl) (OpsOK.cons (fun _ _ => rfl) (OpsOK.cons (fun _ _ => rfl) (OpsOK.cons (fun _ _ => rfl) (OpsOK.cons (fun _ _ => rfl) (OpsOK.cons (fun _ _ => rfl) (OpsOK.cons (fun _ _ => rfl) (OpsOK.cons (fun _ _ => rfl) (OpsOK.cons (fun _ _ => rfl) (OpsOK.cons (fun _ _ => rfl) (OpsOK.cons (fun _ _ => rfl) (OpsOK.nil)))))))))))))))))))))))))))
  case hops =>
    refine OpsOK.cons ?_ ?_
    · intro u W K hB hd hK
      replace hK := hk_val hK (by decide) (by rfl)
      clear hd
      simp only [lay, Act.put, List.setIfInBounds_toArray, List.set_cons_zero, List.set_cons_succ] at hK ⊢
      go_simp
      exact hK.out _ _ rfl (Below.refl _ _)
    refine OpsOK.cons ?_ ?_
    · intro u W K hB hd hK
      replace hK := hk_val hK (by decide) (by rfl)
      clear hd
      simp only [lay, Act.put, List.setIfInBounds_toArray, List.set_cons_zero, List.set_cons_succ] at hK ⊢
      go_simp
      exact hK.out _ _ rfl (Below.refl _ _)
    refine OpsOK.cons ?_ ?_
    · intro u W K hB hd hK
      have h0 := fact_val (dep_of hd 0 (by kernel_rfl) (by kernel_rfl)) (by decide)
      dsimp only [nth] at h0
      have h1 := fact_val (dep_of hd 1 (by kernel_rfl) (by kernel_rfl)) (by decide)
      dsimp only [nth] at h1
      replace hK := hk_val hK (by decide) (by rfl)
      clear hd
      simp only [lay, Act.put, List.setIfInBounds_toArray, List.set_cons_zero, List.set_cons_succ, h0, h1] at hK ⊢
      go_simp
      exact hK.out _ _ rfl (Below.refl _ _)
    refine OpsOK.cons ?_ ?_
    · intro u W K hB hd hK
      have h2 := fact_val (dep_of hd 2 (by kernel_rfl) (by kernel_rfl)) (by decide)
      dsimp only [nth] at h2
      replace hK := hk_val hK (by decide) (by rfl)
      clear hd
      simp only [lay, Act.put, List.setIfInBounds_toArray, List.set_cons_zero, List.set_cons_succ, h2] at hK ⊢
      go_simp
      exact hK.out _ _ rfl (Below.refl _ _)
    refine OpsOK.cons ?_ ?_
    · intro u W K hB hd hK
      have h3 := fact_val (dep_of hd 3 (by kernel_rfl) (by kernel_rfl)) (by decide)
      dsimp only [nth] at h3
      replace hK := hk_val hK (by decide) (by rfl)
      clear hd
      simp only [lay, Act.put, List.setIfInBounds_toArray, List.set_cons_zero, List.set_cons_succ, h3] at hK ⊢
      go_simp
      exact hK.out _ _ rfl (Below.refl _ _)
    refine OpsOK.cons ?_ ?_
    · intro u W K hB hd hK
      have h3 := fact_val (dep_of hd 3 (by kernel_rfl) (by kernel_rfl)) (by decide)
      dsimp only [nth] at h3
      replace hK := hk_val hK (by decide) (by rfl)
      clear hd
      simp only [lay, Act.put, List.setIfInBounds_toArray, List.set_cons_zero, List.set_cons_succ, h3] at hK ⊢
      go_simp
      exact hK.out _ _ rfl (Below.refl _ _)
    refine OpsOK.cons ?_ ?_
    · intro u W K hB hd hK
      have h3 := fact_val (dep_of hd 3 (by kernel_rfl) (by kernel_rfl)) (by decide)
      dsimp only [nth] at h3
      have h4 := fact_val (dep_of hd 4 (by kernel_rfl) (by kernel_rfl)) (by decide)
      dsimp only [nth] at h4
      have h5 := fact_val (dep_of hd 5 (by kernel_rfl) (by kernel_rfl)) (by decide)
      dsimp only [nth] at h5
      replace hK := hk_val hK (by decide) (by rfl)
      clear hd
      simp only [lay, Act.put, List.setIfInBounds_toArray, List.set_cons_zero, List.set_cons_succ, h3, h4, h5] at hK ⊢
      go_simp
      exact hK.out _ _ rfl (Below.refl _ _)
    refine OpsOK.cons ?_ ?_
    · intro u W K hB hd hK
      have h3 := fact_val (dep_of hd 3 (by kernel_rfl) (by kernel_rfl)) (by decide)
      dsimp only [nth] at h3
      have h6 := fact_val (dep_of hd 6 (by kernel_rfl) (by kernel_rfl)) (by decide)
      dsimp only [nth] at h6
      replace hK := hk_val hK (by decide) (by rfl)
      clear hd
      simp only [lay, Act.put, List.setIfInBounds_toArray, List.set_cons_zero, List.set_cons_succ, h3, h6] at hK ⊢
      go_simp
      exact hK.out _ _ rfl (Below.refl _ _)
    refine OpsOK.cons ?_ ?_
    · intro u W K hB hd hK
      have h3 := fact_val (dep_of hd 3 (by kernel_rfl) (by kernel_rfl)) (by decide)
      dsimp only [nth] at h3
      have h7 := fact_val (dep_of hd 7 (by kernel_rfl) (by kernel_rfl)) (by decide)
      dsimp only [nth] at h7
      replace hK := hk_val hK (by decide) (by rfl)
      clear hd
      simp only [lay, Act.put, List.setIfInBounds_toArray, List.set_cons_zero, List.set_cons_succ, h3, h7] at hK ⊢
      go_simp
      exact hK.out _ _ rfl (Below.refl _ _)
    refine OpsOK.cons ?_ ?_
    · intro u W K hB hd hK
      have h8 := fact_val (dep_of hd 8 (by kernel_rfl) (by kernel_rfl)) (by decide)
      dsimp only [nth] at h8
      replace hK := hk_val hK (by decide) (by rfl)
      clear hd
      simp only [lay, Act.put, List.setIfInBounds_toArray, List.set_cons_zero, List.set_cons_succ, h8] at hK ⊢
      go_simp
      exact hK.out _ _ rfl (Below.refl _ _)
    refine OpsOK.cons ?_ ?_
    · intro u W K hB hd hK
      have h8 := fact_val (dep_of hd 8 (by kernel_rfl) (by kernel_rfl)) (by decide)
      dsimp only [nth] at h8
      replace hK := hk_val hK (by decide) (by rfl)
      clear hd
      simp only [lay, Act.put, List.setIfInBounds_toArray, List.set_cons_zero, List.set_cons_succ, h8] at hK ⊢
      go_simp
      exact hK.out _ _ rfl (Below.refl _ _)
    refine OpsOK.cons ?_ ?_
    · intro u W K hB hd hK
      have h8 := fact_val (dep_of hd 8 (by kernel_rfl) (by kernel_rfl)) (by decide)
      dsimp only [nth] at h8
      replace hK := hk_val hK (by decide) (by rfl)
      clear hd
      simp only [lay, Act.put, List.setIfInBounds_toArray, List.set_cons_zero, List.set_cons_succ, h8] at hK ⊢
      go_simp
      exact hK.out _ _ rfl (Below.refl _ _)
    refine OpsOK.cons ?_ ?_
    · intro u W K hB hd hK
      have h8 := fact_val (dep_of hd 8 (by kernel_rfl) (by kernel_rfl)) (by decide)
      dsimp only [nth] at h8
      have h9 := fact_val (dep_of hd 9 (by kernel_rfl) (by kernel_rfl)) (by decide)
      dsimp only [nth] at h9
      have h10 := fact_val (dep_of hd 10 (by kernel_rfl) (by kernel_rfl)) (by decide)
      dsimp only [nth] at h10
      have h11 := fact_val (dep_of hd 11 (by kernel_rfl) (by kernel_rfl)) (by decide)
      dsimp only [nth] at h11
      replace hK := hk_row hB hK (by decide) (by rfl)
      clear hd
      simp only [lay, Act.put, List.setIfInBounds_toArray, List.set_cons_zero, List.set_cons_succ, h8, h9, h10, h11] at hK ⊢
      go_simp
      first
        | (go_at_call 20; (with_reducible refine (fixed_any A n c xs g size _ (h.below hB) hg HM.out (by omega)).mono ?_); rintro e w1 ⟨v1, rfl, hown, hb⟩; exact hK.out _ _ hown hb)
        | (go_at_call 21; (with_reducible refine (reffixed_any _ _ xs g size _ h16 hB.size hg HM.out (by rw [HL.out]; omega)).mono ?_); rintro e w1 ⟨v1, rfl, hown, hgr, hat⟩; exact hK.out _ _ hown hgr hat)
        | (go_at_call 17; (with_reducible refine (awake_any _).mono ?_); rintro e w1 ⟨rfl, hb⟩; exact hK.out _ _ rfl hb)
    refine OpsOK.cons ?_ ?_
    · intro u W K hB hd hK
      have h8 := fact_val (dep_of hd 8 (by kernel_rfl) (by kernel_rfl)) (by decide)
      dsimp only [nth] at h8
      have h12 := fact_row (dep_of hd 12 (by kernel_rfl) (by kernel_rfl)) (by decide)
      dsimp only [nth] at h12
      replace hK := hk_val hK (by decide) (by rfl)
      clear hd
      simp only [lay, Act.put, List.setIfInBounds_toArray, List.set_cons_zero, List.set_cons_succ, h8] at hK ⊢
      have hcv := OB.conv h12
      go_simp
      exact hK.out _ _ rfl (Below.refl _ _)
    refine OpsOK.cons ?_ ?_
    · intro u W K hB hd hK
      have h8 := fact_val (dep_of hd 8 (by kernel_rfl) (by kernel_rfl)) (by decide)
      dsimp only [nth] at h8
      replace hK := hk_row hB hK (by decide) (by rfl)
      clear hd
      simp only [lay, Act.put, List.setIfInBounds_toArray, List.set_cons_zero, List.set_cons_succ, h8] at hK ⊢
      go_simp
      exact hK.out _ _ (OB.empty _ _ (Nat.le_refl _)) (below_alloc' (Below.refl _ _) _)
    refine OpsOK.cons ?_ ?_
    · intro u W K hB hd hK
      have h8 := fact_val (dep_of hd 8 (by kernel_rfl) (by kernel_rfl)) (by decide)
      dsimp only [nth] at h8
      replace hK := hk_val hK (by decide) (by rfl)
      clear hd
      simp only [lay, Act.put, List.setIfInBounds_toArray, List.set_cons_zero, List.set_cons_succ, h8] at hK ⊢
      go_simp
      exact hK.out _ _ rfl (Below.refl _ _)
    refine OpsOK.cons ?_ ?_
    · intro u W K hB hd hK
      have h8 := fact_val (dep_of hd 8 (by kernel_rfl) (by kernel_rfl)) (by decide)
      dsimp only [nth] at h8
      have h12 := fact_row (dep_of hd 12 (by kernel_rfl) (by kernel_rfl)) (by decide)
      dsimp only [nth] at h12
      have h14 := fact_row (dep_of hd 14 (by kernel_rfl) (by kernel_rfl)) (by decide)
      dsimp only [nth] at h14
      have h15 := fact_val (dep_of hd 15 (by kernel_rfl) (by kernel_rfl)) (by decide)
      dsimp only [nth] at h15
      replace hK := hk_par hK (by decide) 14 (by rfl)
      clear hd
      refine stepB_append w _ _ (.tmp 37) (.tmp 38) (by rfl) (by simp only [lay, h8]; rfl) _ [] (by rfl) h14 A n c xs (by exact h15) (h.below hB) (by rw [HL.out]; simp; omega) hB hB.size ?_; intro v' w' a b d f; exact hK.out _ _ (show OB _ _ _ xs from a) d f
    refine OpsOK.cons ?_ ?_
    · intro u W K hB hd hK
      have h8 := fact_val (dep_of hd 8 (by kernel_rfl) (by kernel_rfl)) (by decide)
      dsimp only [nth] at h8
      replace hK := hk_val hK (by decide) (by rfl)
      clear hd
      simp only [lay, Act.put, List.setIfInBounds_toArray, List.set_cons_zero, List.set_cons_succ, h8] at hK ⊢
      go_simp
      exact hK.out _ _ rfl (Below.refl _ _)
    refine OpsOK.cons ?_ ?_
    · intro u W K hB hd hK
      have h8 := fact_val (dep_of hd 8 (by kernel_rfl) (by kernel_rfl)) (by decide)
      dsimp only [nth] at h8
      replace hK := hk_val hK (by decide) (by rfl)
      clear hd
      simp only [lay, Act.put, List.setIfInBounds_toArray, List.set_cons_zero, List.set_cons_succ, h8] at hK ⊢
      go_simp
      exact hK.out _ _ rfl (Below.refl _ _)
    refine OpsOK.cons ?_ ?_
    · intro u W K hB hd hK
      have h8 := fact_val (dep_of hd 8 (by kernel_rfl) (by kernel_rfl)) (by decide)
      dsimp only [nth] at h8
      have h16 := fact_row (dep_of hd 16 (by kernel_rfl) (by kernel_rfl)) (by decide)
      dsimp only [nth] at h16
      have h17 := fact_val (dep_of hd 17 (by kernel_rfl) (by kernel_rfl)) (by decide)
      dsimp only [nth] at h17
      have h18 := fact_val (dep_of hd 18 (by kernel_rfl) (by kernel_rfl)) (by decide)
      dsimp only [nth] at h18
      replace hK := hk_par hK (by decide) 16 (by rfl)
      clear hd
      simp only [lay, Act.put, List.setIfInBounds_toArray, List.set_cons_zero, List.set_cons_succ, h8, h17, h18] at hK ⊢
      go_simp
      first
        | (go_at_call 20; (with_reducible refine (fixed_any A n c xs g size _ (h.below hB) hg HM.out (by omega)).mono ?_); rintro e w1 ⟨v1, rfl, hown, hb⟩; exact hK.out _ _ hown hb)
        | (go_at_call 21; (with_reducible refine (reffixed_any _ _ xs g size _ h16 hB.size hg HM.out (by rw [HL.out]; omega)).mono ?_); rintro e w1 ⟨v1, rfl, hown, hgr, hat⟩; exact hK.out _ _ hown hgr hat)
        | (go_at_call 17; (with_reducible refine (awake_any _).mono ?_); rintro e w1 ⟨rfl, hb⟩; exact hK.out _ _ rfl hb)
    refine OpsOK.cons ?_ ?_
    · intro u W K hB hd hK
      have h8 := fact_val (dep_of hd 8 (by kernel_rfl) (by kernel_rfl)) (by decide)
      dsimp only [nth] at h8
      have h19 := fact_row (dep_of hd 19 (by kernel_rfl) (by kernel_rfl)) (by decide)
      dsimp only [nth] at h19
      replace hK := hk_val hK (by decide) (by rfl)
      clear hd
      simp only [lay, Act.put, List.setIfInBounds_toArray, List.set_cons_zero, List.set_cons_succ, h8] at hK ⊢
      have hcv := OB.conv h19
      go_simp
      exact hK.out _ _ rfl (Below.refl _ _)
    refine OpsOK.cons ?_ ?_
    · intro u W K hB hd hK
      have h8 := fact_val (dep_of hd 8 (by kernel_rfl) (by kernel_rfl)) (by decide)
      dsimp only [nth] at h8
      have h13 := fact_val (dep_of hd 13 (by kernel_rfl) (by kernel_rfl)) (by decide)
      dsimp only [nth] at h13
      have h20 := fact_val (dep_of hd 20 (by kernel_rfl) (by kernel_rfl)) (by decide)
      dsimp only [nth] at h20
      replace hK := hk_val hK (by decide) (by rfl)
      clear hd
      simp only [lay, Act.put, List.setIfInBounds_toArray, List.set_cons_zero, List.set_cons_succ, h8, h13, h20] at hK ⊢
      go_simp
      exact hK.out _ _ rfl (Below.refl _ _)
    refine OpsOK.cons ?_ ?_
    · intro u W K hB hd hK
      have h8 := fact_val (dep_of hd 8 (by kernel_rfl) (by kernel_rfl)) (by decide)
      dsimp only [nth] at h8
      have h21 := fact_val (dep_of hd 21 (by kernel_rfl) (by kernel_rfl)) (by decide)
      dsimp only [nth] at h21
      replace hK := hk_val hK (by decide) (by rfl)
      clear hd
      simp only [lay, Act.put, List.setIfInBounds_toArray, List.set_cons_zero, List.set_cons_succ, h8, h21] at hK ⊢
      go_simp
      exact hK.out _ _ rfl (Below.refl _ _)
    refine OpsOK.cons ?_ ?_
    · intro u W K hB hd hK
      have h19 := fact_row (dep_of hd 19 (by kernel_rfl) (by kernel_rfl)) (by decide)
      dsimp only [nth] at h19
      have h22 := fact_val (dep_of hd 22 (by kernel_rfl) (by kernel_rfl)) (by decide)
      dsimp only [nth] at h22
      replace hK := hk_val hK (by decide) (by rfl)
      clear hd
      simp only [lay, Act.put, List.setIfInBounds_toArray, List.set_cons_zero, List.set_cons_succ, h22] at hK ⊢
      go_simp
      exact hK.out _ _ rfl (Below.refl _ _)
    refine OpsOK.cons ?_ ?_
    · intro u W K hB hd hK
      have h23 := fact_val (dep_of hd 23 (by kernel_rfl) (by kernel_rfl)) (by decide)
      dsimp only [nth] at h23
      replace hK := hk_val hK (by decide) (by rfl)
      clear hd
      simp only [lay, Act.put, List.setIfInBounds_toArray, List.set_cons_zero, List.set_cons_succ, h23] at hK ⊢
      go_simp
      first
        | (go_at_call 20; (with_reducible refine (fixed_any A n c xs g size _ (h.below hB) hg HM.out (by omega)).mono ?_); rintro e w1 ⟨v1, rfl, hown, hb⟩; exact hK.out _ _ hown hb)
        | (go_at_call 21; (with_reducible refine (reffixed_any _ _ xs g size _ h16 hB.size hg HM.out (by rw [HL.out]; omega)).mono ?_); rintro e w1 ⟨v1, rfl, hown, hgr, hat⟩; exact hK.out _ _ hown hgr hat)
        | (go_at_call 17; (with_reducible refine (awake_any _).mono ?_); rintro e w1 ⟨rfl, hb⟩; exact hK.out _ _ rfl hb)
    refine OpsOK.cons ?_ ?_
    · intro u W K hB hd hK
      have h23 := fact_val (dep_of hd 23 (by kernel_rfl) (by kernel_rfl)) (by decide)
      dsimp only [nth] at h23
      have h24 := fact_val (dep_of hd 24 (by kernel_rfl) (by kernel_rfl)) (by decide)
      dsimp only [nth] at h24
      replace hK := hk_val hK (by decide) (by rfl)
      clear hd
      simp only [lay, Act.put, List.setIfInBounds_toArray, List.set_cons_zero, List.set_cons_succ, h23, h24] at hK ⊢
      go_simp
      exact hK.out _ _ rfl (Below.refl _ _)
    refine OpsOK.cons ?_ ?_
    · intro u W K hB hd hK
      have h24 := fact_val (dep_of hd 24 (by kernel_rfl) (by kernel_rfl)) (by decide)
      dsimp only [nth] at h24
      have h25 := fact_val (dep_of hd 25 (by kernel_rfl) (by kernel_rfl)) (by decide)
      dsimp only [nth] at h25
      replace hK := hk_val hK (by decide) (by rfl)
      clear hd
      simp only [lay, Act.put, List.setIfInBounds_toArray, List.set_cons_zero, List.set_cons_succ, h24, h25] at hK ⊢
      go_simp
      exact hK.out _ _ rfl (Below.refl _ _)
    exact OpsOK.nil
  intro u W hB hf
  have h0 := fact_val (hf 0 (by decide) (by decide)) (by decide)
  dsimp only [nth] at h0
  have h1 := fact_val (hf 1 (by decide) (by decide)) (by decide)
  dsimp only [nth] at h1
  have h2 := fact_val (hf 2 (by decide) (by decide)) (by decide)
  dsimp only [nth] at h2
  have h3 := fact_val (hf 3 (by decide) (by decide)) (by decide)
  dsimp only [nth] at h3
  have h4 := fact_val (hf 4 (by decide) (by decide)) (by decide)
  dsimp only [nth] at h4
  have h5 := fact_val (hf 5 (by decide) (by decide)) (by decide)
  dsimp only [nth] at h5
  have h6 := fact_val (hf 6 (by decide) (by decide)) (by decide)
  dsimp only [nth] at h6
  have h7 := fact_val (hf 7 (by decide) (by decide)) (by decide)
  dsimp only [nth] at h7
  have h8 := fact_val (hf 8 (by decide) (by decide)) (by decide)
  dsimp only [nth] at h8
  have h9 := fact_val (hf 9 (by decide) (by decide)) (by decide)
  dsimp only [nth] at h9
  have h10 := fact_val (hf 10 (by decide) (by decide)) (by decide)
  dsimp only [nth] at h10
  have h11 := fact_val (hf 11 (by decide) (by decide)) (by decide)
  dsimp only [nth] at h11
  have h12 := fact_row (hf 12 (by decide) (by decide)) (by decide)
  dsimp only [nth] at h12
  have h13 := fact_val (hf 13 (by decide) (by decide)) (by decide)
  dsimp only [nth] at h13
  have h15 := fact_val (hf 15 (by decide) (by decide)) (by decide)
  dsimp only [nth] at h15
  have h17 := fact_val (hf 17 (by decide) (by decide)) (by decide)
  dsimp only [nth] at h17
  have h18 := fact_val (hf 18 (by decide) (by decide)) (by decide)
  dsimp only [nth] at h18
  have h19 := fact_row (hf 19 (by decide) (by decide)) (by decide)
  dsimp only [nth] at h19
  have h20 := fact_val (hf 20 (by decide) (by decide)) (by decide)
  dsimp only [nth] at h20
  have h21 := fact_val (hf 21 (by decide) (by decide)) (by decide)
  dsimp only [nth] at h21
  have h22 := fact_val (hf 22 (by decide) (by decide)) (by decide)
  dsimp only [nth] at h22
  have h23 := fact_val (hf 23 (by decide) (by decide)) (by decide)
  dsimp only [nth] at h23
  have h24 := fact_val (hf 24 (by decide) (by decide)) (by decide)
  dsimp only [nth] at h24
  have h25 := fact_val (hf 25 (by decide) (by decide)) (by decide)
  dsimp only [nth] at h25
  have h26 := fact_val (hf 26 (by decide) (by decide)) (by decide)
  dsimp only [nth] at h26
  clear hf
  simp only [lay, h0, h1, h2, h3, h4, h5, h6, h7, h8, h9, h10, h11, h13, h15, h17, h18, h20, h21, h22, h23, h24, h25, h26]
  clear h0 h1 h2 h3 h4 h5 h6 h7 h8 h9 h10 h11 h13 h15 h17 h18 h20 h21 h22 h23 h24 h25 h26
  go_wp2
  go_ret
  exact ⟨rfl, hB⟩
theorem VintFixed_walk (A : Option Addr) (n c : Nat) (xs : List UInt8) (a b : Int) (w : World) (h : RB w A n xs) (hc : n ≤ c) (hsz : n ≤ 140737488351232) (ha : (Lit.int .u64 a).wf = true) (hb : (Lit.int .i64 b).wf = true) :
    Calls Try.prog 4 #[.slice A n c, .int .u64 a, .int .i64 b] w fun e w' => e = .returned (.bool true) ∧ Below w.heap.size w w' := by
  have h1 := wf_u64 ha
  have h2 := wf_i64 hb
  obtain ⟨g, rfl⟩ : ∃ g : Nat, a = g := ⟨a.toNat, by omega⟩
  exact VintFixed_walk0 A n c xs g b w h hc hsz (by omega) (by omega)
end Go.Proofs.Ytbjpbnflioiccaa
