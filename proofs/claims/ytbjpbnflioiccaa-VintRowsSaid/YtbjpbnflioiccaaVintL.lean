/- Layer 2: the number that every program must know; the walks of the first statements. -/
import Derived.Test.YtbjpbnflioiccaaVintU
import Derived.Test.YtbjpbnflioiccaaVintG
import Derived.Test.YtbjpbnflioiccaaO
import Derived.Test.YtbjpbnflioiccaaRF
import Derived.Deep.DeepMust
namespace Go.Proofs.Ytbjpbnflioiccaa
open Go.RowKit
set_option linter.unusedVariables false
set_option linter.unusedSimpArgs false

theorem known_take : takeU [0xac, 2, 7] = (300, 2, 0) := by decide +kernel
theorem awake_any (w : World) : Calls Try.prog 17 #[] w fun e w' => e = .returned (.bool true) ∧ Below w.heap.size w w' := by
  have hr := RB.lit w [0xac, 2, 7] #[.int .u8 172, .int .u8 2, .int .u8 7] 5 (0, 0) rfl (by decide)
  have hk := take_any (some ⟨w.heap.size, 0, none⟩) 3 3 _ _ hr
  rw [known_take] at hk
  have HK := hid hk
  clear hk
  go_enter Try.func17, Try.ntmps17
  go_wp2_with (go_at_call 11; refine (HK.out).mono ?_; rintro e w' ⟨rfl, rfl⟩)
  go_ret
  exact ⟨rfl, (Below.refl _ _).alloc (Nat.le_refl _) _⟩

set_option maxHeartbeats 8000000 in
set_option maxRecDepth 100000 in
theorem VintTakes_walk0 (A : Option Addr) (n c : Nat) (xs : List UInt8) (g : Nat) (w : World) (h : RB w A n xs) (hc : n ≤ c) (hsz : n ≤ 140737488351232) (hg : g < 18446744073709551616) :
    Calls Try.prog 3 #[.slice A n c, .int .u64 (g : Int)] w fun e w' => e = .returned (.bool true) ∧ Below w.heap.size w w' := by
  have hl := h.1
  have HL := hid hl
  clear hl
  obtain ⟨tv, tu, te, hT⟩ : ∃ a b d, takeU xs = (a, b, d) := ⟨_, _, _, rfl⟩
  have HC1 := take_any A n c xs w h
  have HC2 := reftake_any A n c xs w h
  rw [hT] at HC1 HC2
  have HD1 := hid HC1
  have HD2 := hid HC2
  clear HC1 HC2 hT
  have hS0 := Below.refl w.heap.size w
  go_enter Try.func3, Try.ntmps3
  go_wp2_with (first
    | (go_at_call 11; refine (HD1.out).mono ?_; rintro e w' ⟨rfl, rfl⟩)
    | (go_at_call 12; refine (HD2.out).mono ?_; rintro e w' ⟨rfl, rfl⟩))
  have hB0 := hS0
  clear hS0
  apply wp_region_txt [none, none, none, none, some 36, none, none, none, none, none, none, none, none, none, none, none, none, none, none, none, none, none, none, some 0, some 1, some 2, some 3, some 4, some 5, some 6, some 7, some 8, some 9, some 10, some 11, some 12, some 13, some 14, some 15, some 16, some 17, some 18, some 19, some 20, some 21, some 22, some 23, some 24, some 25, some 26, some 27, some 28, some 29, some 30, some 31, some 32, some 33, some 34, some 35] [16, 18, 20, 22] [(18, 20), (20, 22)] [_, _, _, _, _, _, _, _, _, _, _, _, _, _, _, _, undef, _, undef, _, undef, _, undef, _, _, _, _, _, _, _, _, _, _, _, _, _, _] [[], [], [], [], [], [], [], [], [], [], [], [], [], [], [], [], _, [], _, [], _, [], _, [], [], [], [], [], [], [], [], [], [], [], [], [], []]
  case hm => rfl
  case hs => rfl
  case hst => kernel_rfl
  case hput => exact OpsOK.cons (fun _ _ => rfl) (OpsOK.cons (fun _ _ => rfl) (OpsOK.cons (fun _ _ => rfl) (OpsOK.cons (fun _ _ => rfl) (OpsOK.cons (fun _ _ => rfl) (OpsOK.cons (fun _ _ => rfl) (OpsOK.cons (fun _ _ => rfl) (OpsOK.cons (fun _ _ => rfl) (OpsOK.cons (fun _ _ => rfl) (OpsOK.cons (fun _ _ => rfl) (OpsOK.cons (fun _ _ => rfl) (OpsOK.cons (fun _ _ => rfl) (OpsOK.cons (fun _ _ => rfl) (OpsOK.cons (fun _ _ => rfl) (OpsOK.cons (fun _ _ => rfl) (OpsOK.cons (fun _ _ => rfl) (OpsOK.cons (fun _ _ => rfl) (OpsOK.cons (fun _ _ => rfl) (OpsOK.cons (fun _ _ => rfl) (OpsOK.cons (fun _ _ => rfl) (OpsOK.cons (fun _ _ => rfl) (OpsOK.cons (fun _ _ => rfl) (OpsOK.cons (fun _ _ => rfl) (OpsOK.cons (fun _ _ => rfl) (OpsOK.cons (fun _ _ => rfl) (OpsOK.cons (fun _ _ => rfl) (OpsOK.cons (fun _ _ => rfl) (OpsOK.cons (fun _ _ => rfl) (OpsOK.cons (fun _ _ => rfl) (OpsOK.cons (fun _ _ => rfl) (OpsOK.cons (fun _ _ => rfl) (OpsOK.cons (fun _ _ => rfl) (OpsOK.cons (fun _ _ => rfl) (OpsOK.cons (fun _ _ => rfl) (OpsOK.cons (fun _ _ => rfl) (OpsOK.cons (fun _ _ => rfl) (OpsOK.cons (fun _ _ => rfl) (OpsOK.nil)))))))))))))))))))))))))))))))))))))
  case hops =>
    refine OpsOK.cons ?_ ?_
    · intro u W K hB hd hK
      replace hK := hk_val hK (by decide) (by rfl)
      clear hd
      simp only [lay, Act.put, List.setIfInBounds_toArray, List.set_cons_zero, List.set_cons_succ] at hK ⊢
      go_simp
      exact hK.out _ _ rfl (Below.refl _ _)
    refine OpsOK.cons ?_ ?_
    · intro u W K hB hd hK
      replace hK := hk_val hK (by decide) (by rfl)
      clear hd
      simp only [lay, Act.put, List.setIfInBounds_toArray, List.set_cons_zero, List.set_cons_succ] at hK ⊢
      go_simp
      exact hK.out _ _ rfl (Below.refl _ _)
    refine OpsOK.cons ?_ ?_
    · intro u W K hB hd hK
      have h0 := fact_val (dep_of hd 0 (by kernel_rfl) (by kernel_rfl)) (by decide)
      dsimp only [nth] at h0
      have h1 := fact_val (dep_of hd 1 (by kernel_rfl) (by kernel_rfl)) (by decide)
      dsimp only [nth] at h1
      replace hK := hk_val hK (by decide) (by rfl)
      clear hd
      simp only [lay, Act.put, List.setIfInBounds_toArray, List.set_cons_zero, List.set_cons_succ, h0, h1] at hK ⊢
      go_simp
      exact hK.out _ _ rfl (Below.refl _ _)
    refine OpsOK.cons ?_ ?_
    · intro u W K hB hd hK
      have h2 := fact_val (dep_of hd 2 (by kernel_rfl) (by kernel_rfl)) (by decide)
      dsimp only [nth] at h2
      replace hK := hk_val hK (by decide) (by rfl)
      clear hd
      simp only [lay, Act.put, List.setIfInBounds_toArray, List.set_cons_zero, List.set_cons_succ, h2] at hK ⊢
      go_simp
      exact hK.out _ _ rfl (Below.refl _ _)
    refine OpsOK.cons ?_ ?_
    · intro u W K hB hd hK
      have h3 := fact_val (dep_of hd 3 (by kernel_rfl) (by kernel_rfl)) (by decide)
      dsimp only [nth] at h3
      replace hK := hk_val hK (by decide) (by rfl)
      clear hd
      simp only [lay, Act.put, List.setIfInBounds_toArray, List.set_cons_zero, List.set_cons_succ, h3] at hK ⊢
      go_simp
      exact hK.out _ _ rfl (Below.refl _ _)
    refine OpsOK.cons ?_ ?_
    · intro u W K hB hd hK
      have h3 := fact_val (dep_of hd 3 (by kernel_rfl) (by kernel_rfl)) (by decide)
      dsimp only [nth] at h3
      replace hK := hk_val hK (by decide) (by rfl)
      clear hd
      simp only [lay, Act.put, List.setIfInBounds_toArray, List.set_cons_zero, List.set_cons_succ, h3] at hK ⊢
      go_simp
      exact hK.out _ _ rfl (Below.refl _ _)
    refine OpsOK.cons ?_ ?_
    · intro u W K hB hd hK
      have h3 := fact_val (dep_of hd 3 (by kernel_rfl) (by kernel_rfl)) (by decide)
      dsimp only [nth] at h3
      have h4 := fact_val (dep_of hd 4 (by kernel_rfl) (by kernel_rfl)) (by decide)
      dsimp only [nth] at h4
      have h5 := fact_val (dep_of hd 5 (by kernel_rfl) (by kernel_rfl)) (by decide)
      dsimp only [nth] at h5
      replace hK := hk_val hK (by decide) (by rfl)
      clear hd
      simp only [lay, Act.put, List.setIfInBounds_toArray, List.set_cons_zero, List.set_cons_succ, h3, h4, h5] at hK ⊢
      go_simp
      exact hK.out _ _ rfl (Below.refl _ _)
    refine OpsOK.cons ?_ ?_
    · intro u W K hB hd hK
      have h3 := fact_val (dep_of hd 3 (by kernel_rfl) (by kernel_rfl)) (by decide)
      dsimp only [nth] at h3
      have h6 := fact_val (dep_of hd 6 (by kernel_rfl) (by kernel_rfl)) (by decide)
      dsimp only [nth] at h6
      replace hK := hk_val hK (by decide) (by rfl)
      clear hd
      simp only [lay, Act.put, List.setIfInBounds_toArray, List.set_cons_zero, List.set_cons_succ, h3, h6] at hK ⊢
      go_simp
      exact hK.out _ _ rfl (Below.refl _ _)
    refine OpsOK.cons ?_ ?_
    · intro u W K hB hd hK
      have h3 := fact_val (dep_of hd 3 (by kernel_rfl) (by kernel_rfl)) (by decide)
      dsimp only [nth] at h3
      have h7 := fact_val (dep_of hd 7 (by kernel_rfl) (by kernel_rfl)) (by decide)
      dsimp only [nth] at h7
      replace hK := hk_val hK (by decide) (by rfl)
      clear hd
      simp only [lay, Act.put, List.setIfInBounds_toArray, List.set_cons_zero, List.set_cons_succ, h3, h7] at hK ⊢
      go_simp
      exact hK.out _ _ rfl (Below.refl _ _)
    refine OpsOK.cons ?_ ?_
    · intro u W K hB hd hK
      have h8 := fact_val (dep_of hd 8 (by kernel_rfl) (by kernel_rfl)) (by decide)
      dsimp only [nth] at h8
      replace hK := hk_val hK (by decide) (by rfl)
      clear hd
      simp only [lay, Act.put, List.setIfInBounds_toArray, List.set_cons_zero, List.set_cons_succ, h8] at hK ⊢
      go_simp
      exact hK.out _ _ rfl (Below.refl _ _)
    refine OpsOK.cons ?_ ?_
    · intro u W K hB hd hK
      have h8 := fact_val (dep_of hd 8 (by kernel_rfl) (by kernel_rfl)) (by decide)
      dsimp only [nth] at h8
      replace hK := hk_val hK (by decide) (by rfl)
      clear hd
      simp only [lay, Act.put, List.setIfInBounds_toArray, List.set_cons_zero, List.set_cons_succ, h8] at hK ⊢
      go_simp
      exact hK.out _ _ rfl (Below.refl _ _)
    refine OpsOK.cons ?_ ?_
    · intro u W K hB hd hK
      have h8 := fact_val (dep_of hd 8 (by kernel_rfl) (by kernel_rfl)) (by decide)
      dsimp only [nth] at h8
      have h9 := fact_val (dep_of hd 9 (by kernel_rfl) (by kernel_rfl)) (by decide)
      dsimp only [nth] at h9
      have h10 := fact_val (dep_of hd 10 (by kernel_rfl) (by kernel_rfl)) (by decide)
      dsimp only [nth] at h10
      replace hK := hk_val hK (by decide) (by rfl)
      clear hd
      simp only [lay, Act.put, List.setIfInBounds_toArray, List.set_cons_zero, List.set_cons_succ, h8, h9, h10] at hK ⊢
      go_simp
      exact hK.out _ _ rfl (Below.refl _ _)
    refine OpsOK.cons ?_ ?_
    · intro u W K hB hd hK
      have h8 := fact_val (dep_of hd 8 (by kernel_rfl) (by kernel_rfl)) (by decide)
      dsimp only [nth] at h8
      have h11 := fact_val (dep_of hd 11 (by kernel_rfl) (by kernel_rfl)) (by decide)
      dsimp only [nth] at h11
      replace hK := hk_val hK (by decide) (by rfl)
      clear hd
      simp only [lay, Act.put, List.setIfInBounds_toArray, List.set_cons_zero, List.set_cons_succ, h8, h11] at hK ⊢
      go_simp
      exact hK.out _ _ rfl (Below.refl _ _)
    refine OpsOK.cons ?_ ?_
    · intro u W K hB hd hK
      have h8 := fact_val (dep_of hd 8 (by kernel_rfl) (by kernel_rfl)) (by decide)
      dsimp only [nth] at h8
      have h12 := fact_val (dep_of hd 12 (by kernel_rfl) (by kernel_rfl)) (by decide)
      dsimp only [nth] at h12
      replace hK := hk_val hK (by decide) (by rfl)
      clear hd
      simp only [lay, Act.put, List.setIfInBounds_toArray, List.set_cons_zero, List.set_cons_succ, h8, h12] at hK ⊢
      go_simp
      exact hK.out _ _ rfl (Below.refl _ _)
    refine OpsOK.cons ?_ ?_
    · intro u W K hB hd hK
      have h13 := fact_val (dep_of hd 13 (by kernel_rfl) (by kernel_rfl)) (by decide)
      dsimp only [nth] at h13
      replace hK := hk_val hK (by decide) (by rfl)
      clear hd
      simp only [lay, Act.put, List.setIfInBounds_toArray, List.set_cons_zero, List.set_cons_succ, h13] at hK ⊢
      go_simp
      exact hK.out _ _ rfl (Below.refl _ _)
    refine OpsOK.cons ?_ ?_
    · intro u W K hB hd hK
      have h13 := fact_val (dep_of hd 13 (by kernel_rfl) (by kernel_rfl)) (by decide)
      dsimp only [nth] at h13
      replace hK := hk_val hK (by decide) (by rfl)
      clear hd
      simp only [lay, Act.put, List.setIfInBounds_toArray, List.set_cons_zero, List.set_cons_succ, h13] at hK ⊢
      go_simp
      exact hK.out _ _ rfl (Below.refl _ _)
    refine OpsOK.cons ?_ ?_
    · intro u W K hB hd hK
      have h13 := fact_val (dep_of hd 13 (by kernel_rfl) (by kernel_rfl)) (by decide)
      dsimp only [nth] at h13
      have h14 := fact_val (dep_of hd 14 (by kernel_rfl) (by kernel_rfl)) (by decide)
      dsimp only [nth] at h14
      have h15 := fact_val (dep_of hd 15 (by kernel_rfl) (by kernel_rfl)) (by decide)
      dsimp only [nth] at h15
      replace hK := hk_row hB hK (by decide) (by rfl)
      clear hd
      simp only [lay, Act.put, List.setIfInBounds_toArray, List.set_cons_zero, List.set_cons_succ, h13, h14, h15] at hK ⊢
      go_simp
      first
        | (go_at_call 13; (with_reducible refine (put_any A n c xs g _ (h.below hB) hg (by omega)).mono ?_); rintro e w1 ⟨v1, rfl, hown, hb⟩; exact hK.out _ _ hown hb)
        | (go_at_call 14; (with_reducible refine (refput_any _ _ xs g _ h20 hB.size hg (by rw [HL.out]; omega)).mono ?_); rintro e w1 ⟨v1, rfl, hown, hgr, hat⟩; exact hK.out _ _ hown hgr hat)
        | (go_at_call 15; (with_reducible refine (len_any g _ hg).mono ?_); rintro e w1 ⟨rfl, rfl⟩; exact hK.out _ _ rfl (Below.refl _ _))
        | (go_at_call 16; (with_reducible refine (reflen_any g _ hg).mono ?_); rintro e w1 ⟨rfl, hb⟩; exact hK.out _ _ rfl hb)
        | (go_at_call 17; (with_reducible refine (awake_any _).mono ?_); rintro e w1 ⟨rfl, hb⟩; exact hK.out _ _ rfl hb)
    refine OpsOK.cons ?_ ?_
    · intro u W K hB hd hK
      have h13 := fact_val (dep_of hd 13 (by kernel_rfl) (by kernel_rfl)) (by decide)
      dsimp only [nth] at h13
      have h16 := fact_row (dep_of hd 16 (by kernel_rfl) (by kernel_rfl)) (by decide)
      dsimp only [nth] at h16
      replace hK := hk_val hK (by decide) (by rfl)
      clear hd
      simp only [lay, Act.put, List.setIfInBounds_toArray, List.set_cons_zero, List.set_cons_succ, h13] at hK ⊢
      have hcv := OB.conv h16
      go_simp
      exact hK.out _ _ rfl (Below.refl _ _)
    refine OpsOK.cons ?_ ?_
    · intro u W K hB hd hK
      have h13 := fact_val (dep_of hd 13 (by kernel_rfl) (by kernel_rfl)) (by decide)
      dsimp only [nth] at h13
      replace hK := hk_row hB hK (by decide) (by rfl)
      clear hd
      simp only [lay, Act.put, List.setIfInBounds_toArray, List.set_cons_zero, List.set_cons_succ, h13] at hK ⊢
      go_simp
      exact hK.out _ _ (OB.empty _ _ (Nat.le_refl _)) (below_alloc' (Below.refl _ _) _)
    refine OpsOK.cons ?_ ?_
    · intro u W K hB hd hK
      have h13 := fact_val (dep_of hd 13 (by kernel_rfl) (by kernel_rfl)) (by decide)
      dsimp only [nth] at h13
      replace hK := hk_val hK (by decide) (by rfl)
      clear hd
      simp only [lay, Act.put, List.setIfInBounds_toArray, List.set_cons_zero, List.set_cons_succ, h13] at hK ⊢
      go_simp
      exact hK.out _ _ rfl (Below.refl _ _)
    refine OpsOK.cons ?_ ?_
    · intro u W K hB hd hK
      have h13 := fact_val (dep_of hd 13 (by kernel_rfl) (by kernel_rfl)) (by decide)
      dsimp only [nth] at h13
      have h16 := fact_row (dep_of hd 16 (by kernel_rfl) (by kernel_rfl)) (by decide)
      dsimp only [nth] at h16
      have h18 := fact_row (dep_of hd 18 (by kernel_rfl) (by kernel_rfl)) (by decide)
      dsimp only [nth] at h18
      have h19 := fact_val (dep_of hd 19 (by kernel_rfl) (by kernel_rfl)) (by decide)
      dsimp only [nth] at h19
      replace hK := hk_par hK (by decide) 18 (by rfl)
      clear hd
      refine stepB_append w _ _ (.tmp 41) (.tmp 42) (by rfl) (by simp only [lay, h13]; rfl) _ [] (by rfl) h18 A n c xs (by exact h19) (h.below hB) (by rw [HL.out]; simp; omega) hB hB.size ?_; intro v' w' a b d f; exact hK.out _ _ (show OB _ _ _ xs from a) d f
    refine OpsOK.cons ?_ ?_
    · intro u W K hB hd hK
      have h13 := fact_val (dep_of hd 13 (by kernel_rfl) (by kernel_rfl)) (by decide)
      dsimp only [nth] at h13
      replace hK := hk_val hK (by decide) (by rfl)
      clear hd
      simp only [lay, Act.put, List.setIfInBounds_toArray, List.set_cons_zero, List.set_cons_succ, h13] at hK ⊢
      go_simp
      exact hK.out _ _ rfl (Below.refl _ _)
    refine OpsOK.cons ?_ ?_
    · intro u W K hB hd hK
      have h13 := fact_val (dep_of hd 13 (by kernel_rfl) (by kernel_rfl)) (by decide)
      dsimp only [nth] at h13
      have h20 := fact_row (dep_of hd 20 (by kernel_rfl) (by kernel_rfl)) (by decide)
      dsimp only [nth] at h20
      have h21 := fact_val (dep_of hd 21 (by kernel_rfl) (by kernel_rfl)) (by decide)
      dsimp only [nth] at h21
      replace hK := hk_par hK (by decide) 20 (by rfl)
      clear hd
      simp only [lay, Act.put, List.setIfInBounds_toArray, List.set_cons_zero, List.set_cons_succ, h13, h21] at hK ⊢
      go_simp
      first
        | (go_at_call 13; (with_reducible refine (put_any A n c xs g _ (h.below hB) hg (by omega)).mono ?_); rintro e w1 ⟨v1, rfl, hown, hb⟩; exact hK.out _ _ hown hb)
        | (go_at_call 14; (with_reducible refine (refput_any _ _ xs g _ h20 hB.size hg (by rw [HL.out]; omega)).mono ?_); rintro e w1 ⟨v1, rfl, hown, hgr, hat⟩; exact hK.out _ _ hown hgr hat)
        | (go_at_call 15; (with_reducible refine (len_any g _ hg).mono ?_); rintro e w1 ⟨rfl, rfl⟩; exact hK.out _ _ rfl (Below.refl _ _))
        | (go_at_call 16; (with_reducible refine (reflen_any g _ hg).mono ?_); rintro e w1 ⟨rfl, hb⟩; exact hK.out _ _ rfl hb)
        | (go_at_call 17; (with_reducible refine (awake_any _).mono ?_); rintro e w1 ⟨rfl, hb⟩; exact hK.out _ _ rfl hb)
    refine OpsOK.cons ?_ ?_
    · intro u W K hB hd hK
      have h13 := fact_val (dep_of hd 13 (by kernel_rfl) (by kernel_rfl)) (by decide)
      dsimp only [nth] at h13
      have h22 := fact_row (dep_of hd 22 (by kernel_rfl) (by kernel_rfl)) (by decide)
      dsimp only [nth] at h22
      replace hK := hk_val hK (by decide) (by rfl)
      clear hd
      simp only [lay, Act.put, List.setIfInBounds_toArray, List.set_cons_zero, List.set_cons_succ, h13] at hK ⊢
      have hcv := OB.conv h22
      go_simp
      exact hK.out _ _ rfl (Below.refl _ _)
    refine OpsOK.cons ?_ ?_
    · intro u W K hB hd hK
      have h13 := fact_val (dep_of hd 13 (by kernel_rfl) (by kernel_rfl)) (by decide)
      dsimp only [nth] at h13
      have h17 := fact_val (dep_of hd 17 (by kernel_rfl) (by kernel_rfl)) (by decide)
      dsimp only [nth] at h17
      have h23 := fact_val (dep_of hd 23 (by kernel_rfl) (by kernel_rfl)) (by decide)
      dsimp only [nth] at h23
      replace hK := hk_val hK (by decide) (by rfl)
      clear hd
      simp only [lay, Act.put, List.setIfInBounds_toArray, List.set_cons_zero, List.set_cons_succ, h13, h17, h23] at hK ⊢
      go_simp
      exact hK.out _ _ rfl (Below.refl _ _)
    refine OpsOK.cons ?_ ?_
    · intro u W K hB hd hK
      have h13 := fact_val (dep_of hd 13 (by kernel_rfl) (by kernel_rfl)) (by decide)
      dsimp only [nth] at h13
      have h24 := fact_val (dep_of hd 24 (by kernel_rfl) (by kernel_rfl)) (by decide)
      dsimp only [nth] at h24
      replace hK := hk_val hK (by decide) (by rfl)
      clear hd
      simp only [lay, Act.put, List.setIfInBounds_toArray, List.set_cons_zero, List.set_cons_succ, h13, h24] at hK ⊢
      go_simp
      exact hK.out _ _ rfl (Below.refl _ _)
    refine OpsOK.cons ?_ ?_
    · intro u W K hB hd hK
      have h22 := fact_row (dep_of hd 22 (by kernel_rfl) (by kernel_rfl)) (by decide)
      dsimp only [nth] at h22
      have h25 := fact_val (dep_of hd 25 (by kernel_rfl) (by kernel_rfl)) (by decide)
      dsimp only [nth] at h25
      replace hK := hk_val hK (by decide) (by rfl)
      clear hd
      simp only [lay, Act.put, List.setIfInBounds_toArray, List.set_cons_zero, List.set_cons_succ, h25] at hK ⊢
      go_simp
      exact hK.out _ _ rfl (Below.refl _ _)
    refine OpsOK.cons ?_ ?_
    · intro u W K hB hd hK
      have h26 := fact_val (dep_of hd 26 (by kernel_rfl) (by kernel_rfl)) (by decide)
      dsimp only [nth] at h26
      replace hK := hk_val hK (by decide) (by rfl)
      clear hd
      simp only [lay, Act.put, List.setIfInBounds_toArray, List.set_cons_zero, List.set_cons_succ, h26] at hK ⊢
      go_simp
      exact hK.out _ _ rfl (Below.refl _ _)
    refine OpsOK.cons ?_ ?_
    · intro u W K hB hd hK
      have h26 := fact_val (dep_of hd 26 (by kernel_rfl) (by kernel_rfl)) (by decide)
      dsimp only [nth] at h26
      have h27 := fact_val (dep_of hd 27 (by kernel_rfl) (by kernel_rfl)) (by decide)
      dsimp only [nth] at h27
      replace hK := hk_val hK (by decide) (by rfl)
      clear hd
      simp only [lay, Act.put, List.setIfInBounds_toArray, List.set_cons_zero, List.set_cons_succ, h26, h27] at hK ⊢
      go_simp
      first
        | (go_at_call 13; (with_reducible refine (put_any A n c xs g _ (h.below hB) hg (by omega)).mono ?_); rintro e w1 ⟨v1, rfl, hown, hb⟩; exact hK.out _ _ hown hb)
        | (go_at_call 14; (with_reducible refine (refput_any _ _ xs g _ h20 hB.size hg (by rw [HL.out]; omega)).mono ?_); rintro e w1 ⟨v1, rfl, hown, hgr, hat⟩; exact hK.out _ _ hown hgr hat)
        | (go_at_call 15; (with_reducible refine (len_any g _ hg).mono ?_); rintro e w1 ⟨rfl, rfl⟩; exact hK.out _ _ rfl (Below.refl _ _))
        | (go_at_call 16; (with_reducible refine (reflen_any g _ hg).mono ?_); rintro e w1 ⟨rfl, hb⟩; exact hK.out _ _ rfl hb)
        | (go_at_call 17; (with_reducible refine (awake_any _).mono ?_); rintro e w1 ⟨rfl, hb⟩; exact hK.out _ _ rfl hb)
    refine OpsOK.cons ?_ ?_
    · intro u W K hB hd hK
      have h26 := fact_val (dep_of hd 26 (by kernel_rfl) (by kernel_rfl)) (by decide)
      dsimp only [nth] at h26
      replace hK := hk_val hK (by decide) (by rfl)
      clear hd
      simp only [lay, Act.put, List.setIfInBounds_toArray, List.set_cons_zero, List.set_cons_succ, h26] at hK ⊢
      go_simp
      exact hK.out _ _ rfl (Below.refl _ _)
    refine OpsOK.cons ?_ ?_
    · intro u W K hB hd hK
      have h26 := fact_val (dep_of hd 26 (by kernel_rfl) (by kernel_rfl)) (by decide)
      dsimp only [nth] at h26
      have h28 := fact_val (dep_of hd 28 (by kernel_rfl) (by kernel_rfl)) (by decide)
      dsimp only [nth] at h28
      have h29 := fact_val (dep_of hd 29 (by kernel_rfl) (by kernel_rfl)) (by decide)
      dsimp only [nth] at h29
      replace hK := hk_val hK (by decide) (by rfl)
      clear hd
      simp only [lay, Act.put, List.setIfInBounds_toArray, List.set_cons_zero, List.set_cons_succ, h26, h28, h29] at hK ⊢
      go_simp
      first
        | (go_at_call 13; (with_reducible refine (put_any A n c xs g _ (h.below hB) hg (by omega)).mono ?_); rintro e w1 ⟨v1, rfl, hown, hb⟩; exact hK.out _ _ hown hb)
        | (go_at_call 14; (with_reducible refine (refput_any _ _ xs g _ h20 hB.size hg (by rw [HL.out]; omega)).mono ?_); rintro e w1 ⟨v1, rfl, hown, hgr, hat⟩; exact hK.out _ _ hown hgr hat)
        | (go_at_call 15; (with_reducible refine (len_any g _ hg).mono ?_); rintro e w1 ⟨rfl, rfl⟩; exact hK.out _ _ rfl (Below.refl _ _))
        | (go_at_call 16; (with_reducible refine (reflen_any g _ hg).mono ?_); rintro e w1 ⟨rfl, hb⟩; exact hK.out _ _ rfl hb)
        | (go_at_call 17; (with_reducible refine (awake_any _).mono ?_); rintro e w1 ⟨rfl, hb⟩; exact hK.out _ _ rfl hb)
    refine OpsOK.cons ?_ ?_
    · intro u W K hB hd hK
      have h26 := fact_val (dep_of hd 26 (by kernel_rfl) (by kernel_rfl)) (by decide)
      dsimp only [nth] at h26
      have h28 := fact_val (dep_of hd 28 (by kernel_rfl) (by kernel_rfl)) (by decide)
      dsimp only [nth] at h28
      have h30 := fact_val (dep_of hd 30 (by kernel_rfl) (by kernel_rfl)) (by decide)
      dsimp only [nth] at h30
      replace hK := hk_val hK (by decide) (by rfl)
      clear hd
      simp only [lay, Act.put, List.setIfInBounds_toArray, List.set_cons_zero, List.set_cons_succ, h26, h28, h30] at hK ⊢
      go_simp
      exact hK.out _ _ rfl (Below.refl _ _)
    refine OpsOK.cons ?_ ?_
    · intro u W K hB hd hK
      have h26 := fact_val (dep_of hd 26 (by kernel_rfl) (by kernel_rfl)) (by decide)
      dsimp only [nth] at h26
      have h31 := fact_val (dep_of hd 31 (by kernel_rfl) (by kernel_rfl)) (by decide)
      dsimp only [nth] at h31
      replace hK := hk_val hK (by decide) (by rfl)
      clear hd
      simp only [lay, Act.put, List.setIfInBounds_toArray, List.set_cons_zero, List.set_cons_succ, h26, h31] at hK ⊢
      go_simp
      exact hK.out _ _ rfl (Below.refl _ _)
    refine OpsOK.cons ?_ ?_
    · intro u W K hB hd hK
      have h30 := fact_val (dep_of hd 30 (by kernel_rfl) (by kernel_rfl)) (by decide)
      dsimp only [nth] at h30
      have h32 := fact_val (dep_of hd 32 (by kernel_rfl) (by kernel_rfl)) (by decide)
      dsimp only [nth] at h32
      replace hK := hk_val hK (by decide) (by rfl)
      clear hd
      simp only [lay, Act.put, List.setIfInBounds_toArray, List.set_cons_zero, List.set_cons_succ, h30, h32] at hK ⊢
      go_simp
      exact hK.out _ _ rfl (Below.refl _ _)
    refine OpsOK.cons ?_ ?_
    · intro u W K hB hd hK
      have h33 := fact_val (dep_of hd 33 (by kernel_rfl) (by kernel_rfl)) (by decide)
      dsimp only [nth] at h33
      replace hK := hk_val hK (by decide) (by rfl)
      clear hd
      simp only [lay, Act.put, List.setIfInBounds_toArray, List.set_cons_zero, List.set_cons_succ, h33] at hK ⊢
      go_simp
      first
        | (go_at_call 13; (with_reducible refine (put_any A n c xs g _ (h.below hB) hg (by omega)).mono ?_); rintro e w1 ⟨v1, rfl, hown, hb⟩; exact hK.out _ _ hown hb)
        | (go_at_call 14; (with_reducible refine (refput_any _ _ xs g _ h20 hB.size hg (by rw [HL.out]; omega)).mono ?_); rintro e w1 ⟨v1, rfl, hown, hgr, hat⟩; exact hK.out _ _ hown hgr hat)
        | (go_at_call 15; (with_reducible refine (len_any g _ hg).mono ?_); rintro e w1 ⟨rfl, rfl⟩; exact hK.out _ _ rfl (Below.refl _ _))
        | (go_at_call 16; (with_reducible refine (reflen_any g _ hg).mono ?_); rintro e w1 ⟨rfl, hb⟩; exact hK.out _ _ rfl hb)
        | (go_at_call 17; (with_reducible refine (awake_any _).mono ?_); rintro e w1 ⟨rfl, hb⟩; exact hK.out _ _ rfl hb)
    refine OpsOK.cons ?_ ?_
    · intro u W K hB hd hK
      have h33 := fact_val (dep_of hd 33 (by kernel_rfl) (by kernel_rfl)) (by decide)
      dsimp only [nth] at h33
      have h34 := fact_val (dep_of hd 34 (by kernel_rfl) (by kernel_rfl)) (by decide)
      dsimp only [nth] at h34
      replace hK := hk_val hK (by decide) (by rfl)
      clear hd
      simp only [lay, Act.put, List.setIfInBounds_toArray, List.set_cons_zero, List.set_cons_succ, h33, h34] at hK ⊢
      go_simp
      exact hK.out _ _ rfl (Below.refl _ _)
    refine OpsOK.cons ?_ ?_
    · intro u W K hB hd hK
      have h34 := fact_val (dep_of hd 34 (by kernel_rfl) (by kernel_rfl)) (by decide)
      dsimp only [nth] at h34
      have h35 := fact_val (dep_of hd 35 (by kernel_rfl) (by kernel_rfl)) (by decide)
      dsimp only [nth] at h35
      replace hK := hk_val hK (by decide) (by rfl)
      clear hd
      simp only [lay, Act.put, List.setIfInBounds_toArray, List.set_cons_zero, List.set_cons_succ, h34, h35] at hK ⊢
      go_simp
      exact hK.out _ _ rfl (Below.refl _ _)
    exact OpsOK.nil
  intro u W hB hf
  have h0 := fact_val (hf 0 (by decide) (by decide)) (by decide)
  dsimp only [nth] at h0
  have h1 := fact_val (hf 1 (by decide) (by decide)) (by decide)
  dsimp only [nth] at h1
  have h2 := fact_val (hf 2 (by decide) (by decide)) (by decide)
  dsimp only [nth] at h2
  have h3 := fact_val (hf 3 (by decide) (by decide)) (by decide)
  dsimp only [nth] at h3
  have h4 := fact_val (hf 4 (by decide) (by decide)) (by decide)
  dsimp only [nth] at h4
  have h5 := fact_val (hf 5 (by decide) (by decide)) (by decide)
  dsimp only [nth] at h5
  have h6 := fact_val (hf 6 (by decide) (by decide)) (by decide)
  dsimp only [nth] at h6
  have h7 := fact_val (hf 7 (by decide) (by decide)) (by decide)
  dsimp only [nth] at h7
  have h8 := fact_val (hf 8 (by decide) (by decide)) (by decide)
  dsimp only [nth] at h8
  have h9 := fact_val (hf 9 (by decide) (by decide)) (by decide)
  dsimp only [nth] at h9
  have h10 := fact_val (hf 10 (by decide) (by decide)) (by decide)
  dsimp only [nth] at h10
  have h11 := fact_val (hf 11 (by decide) (by decide)) (by decide)
  dsimp only [nth] at h11
  have h12 := fact_val (hf 12 (by decide) (by decide)) (by decide)
  dsimp only [nth] at h12
  have h13 := fact_val (hf 13 (by decide) (by decide)) (by decide)
  dsimp only [nth] at h13
  have h14 := fact_val (hf 14 (by decide) (by decide)) (by decide)
  dsimp only [nth] at h14
  have h15 := fact_val (hf 15 (by decide) (by decide)) (by decide)
  dsimp only [nth] at h15
  have h16 := fact_row (hf 16 (by decide) (by decide)) (by decide)
  dsimp only [nth] at h16
  have h17 := fact_val (hf 17 (by decide) (by decide)) (by decide)
  dsimp only [nth] at h17
  have h19 := fact_val (hf 19 (by decide) (by decide)) (by decide)
  dsimp only [nth] at h19
  have h21 := fact_val (hf 21 (by decide) (by decide)) (by decide)
  dsimp only [nth] at h21
  have h22 := fact_row (hf 22 (by decide) (by decide)) (by decide)
  dsimp only [nth] at h22
  have h23 := fact_val (hf 23 (by decide) (by decide)) (by decide)
  dsimp only [nth] at h23
  have h24 := fact_val (hf 24 (by decide) (by decide)) (by decide)
  dsimp only [nth] at h24
  have h25 := fact_val (hf 25 (by decide) (by decide)) (by decide)
  dsimp only [nth] at h25
  have h26 := fact_val (hf 26 (by decide) (by decide)) (by decide)
  dsimp only [nth] at h26
  have h27 := fact_val (hf 27 (by decide) (by decide)) (by decide)
  dsimp only [nth] at h27
  have h28 := fact_val (hf 28 (by decide) (by decide)) (by decide)
  dsimp only [nth] at h28
  have h29 := fact_val (hf 29 (by decide) (by decide)) (by decide)
  dsimp only [nth] at h29
  have h30 := fact_val (hf 30 (by decide) (by decide)) (by decide)
  dsimp only [nth] at h30
  have h31 := fact_val (hf 31 (by decide) (by decide)) (by decide)
  dsimp only [nth] at h31
  have h32 := fact_val (hf 32 (by decide) (by decide)) (by decide)
  dsimp only [nth] at h32
  have h33 := fact_val (hf 33 (by decide) (by decide)) (by decide)
  dsimp only [nth] at h33
  have h34 := fact_val (hf 34 (by decide) (by decide)) (by decide)
  dsimp only [nth] at h34
  have h35 := fact_val (hf 35 (by decide) (by decide)) (by decide)
  dsimp only [nth] at h35
  have h36 := fact_val (hf 36 (by decide) (by decide)) (by decide)
  dsimp only [nth] at h36
  clear hf
  simp only [lay, h0, h1, h2, h3, h4, h5, h6, h7, h8, h9, h10, h11, h12, h13, h14, h15, h17, h19, h21, h23, h24, h25, h26, h27, h28, h29, h30, h31, h32, h33, h34, h35, h36]
  clear h0 h1 h2 h3 h4 h5 h6 h7 h8 h9 h10 h11 h12 h13 h14 h15 h17 h19 h21 h23 h24 h25 h26 h27 h28 h29 h30 h31 h32 h33 h34 h35 h36
  go_wp2
  go_ret
  exact ⟨rfl, hB⟩
theorem VintTakes_walk (A : Option Addr) (n c : Nat) (xs : List UInt8) (a : Int) (w : World) (h : RB w A n xs) (hc : n ≤ c) (hsz : n ≤ 140737488351232) (ha : (Lit.int .u64 a).wf = true) :
    Calls Try.prog 3 #[.slice A n c, .int .u64 a] w fun e w' => e = .returned (.bool true) ∧ Below w.heap.size w w' := by
  have hb := wf_u64 ha
  obtain ⟨g, rfl⟩ : ∃ g : Nat, a = g := ⟨a.toNat, by omega⟩
  exact VintTakes_walk0 A n c xs g w h hc hsz (by omega)
end Go.Proofs.Ytbjpbnflioiccaa
