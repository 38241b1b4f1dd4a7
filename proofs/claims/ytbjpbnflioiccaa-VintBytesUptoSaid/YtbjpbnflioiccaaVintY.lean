/- Layer 2: bytes with their length ahead: the walk of the statement. -/
import Derived.Test.YtbjpbnflioiccaaVintJ
namespace Go.Proofs.Ytbjpbnflioiccaa
open Go.RowKit
set_option linter.unusedVariables false
set_option linter.unusedSimpArgs false

/-- A row of one's own lies apart from what was there before. -/
theorem OB.apart {w W : World} {v : Value} {xs ys : List UInt8} {A : Option Addr} {m : Nat} (h : OB W w.heap.size v xs) (h' : RB w A m ys) : 0 < m → ∀ ad, A = some ad → v.ownBlock ≠ some ad.block := by
  intro hm0 ad e hx
  obtain ⟨b0, o0, e0, hc0⟩ := h'.form hm0
  rw [e0] at e
  cases e
  have hy := OB.base_ h _ hx
  have hz := World.block_lt_of_cell? _ _ (hc0 0 hm0)
  exact absurd hz (Nat.not_lt.2 hy)
set_option maxHeartbeats 8000000 in
set_option maxRecDepth 100000 in
theorem VintBytes_walk0 (A : Option Addr) (n c : Nat) (xs : List UInt8) (A' : Option Addr) (m c' : Nat) (ys : List UInt8) (most : Int) (w : World) (h : RB w A n xs) (hc : n ≤ c) (hsz : n ≤ 1048576) (h' : RB w A' m ys) (hc' : m ≤ c') (hsz' : m ≤ 1048576) (hm : -9223372036854775808 ≤ most ∧ most ≤ 9223372036854775807) :
    Calls Try.prog 5 #[.slice A n c, .slice A' m c', .int .i64 most] w fun e w' => e = .returned (.bool true) ∧ Below w.heap.size w w' := by
  have hl := h.1
  have HL := hid hl
  have hl' := h'.1
  have HL' := hid hl'
  clear hl hl'
  obtain ⟨ts, tu, te, hT⟩ : ∃ a b d, takeB xs most = (a, b, d) := ⟨_, _, _, rfl⟩
  have HT := hid hT
  clear hT
  go_enter Try.func5, Try.ntmps5
  go_wp2_with (first
    | (go_at_call 22; (with_reducible refine (takebytes_any A n c _ most _ h hc hm (by omega)).mono ?_); rintro e w1 ⟨v1, rfl, hown1, hb1⟩; rw [HT.out] at hown1 ⊢; have h2 := h.below hb1)
    | (go_at_call 23; (with_reducible refine (reftakebytes_any A n c _ most _ h2 hc hm (by omega)).mono ?_); rintro e w2 ⟨v2, rfl, hown2, hb2⟩; rw [HT.out] at hown2 ⊢))
  have hown1' := hown1.below hb2
  have hB0 := below_then hb1 hb2
  have h3 := h.below hB0
  have h3' := h'.below hB0
  clear hb1 hb2 hown1 h h' h2
  apply wp_region_txt [none, none, none, none, none, none, some 31, none, none, none, none, none, none, none, none, none, none, none, none, none, none, none, none, none, none, none, none, some 0, some 1, some 2, some 3, some 4, some 5, some 6, some 7, some 8, some 9, some 10, some 11, some 12, some 13, some 14, some 15, some 16, some 17, some 18, some 19, some 20, some 21, some 22, some 23, some 24, some 25, some 26, some 27, some 28, some 29, some 30] [18, 20, 22, 24] [(20, 22), (22, 24)] [_, _, _, _, _, _, _, _, _, _, _, _, _, _, _, _, _, _, undef, _, undef, _, undef, _, undef, _, _, _, _, _, _, _] [[], [], [], [], [], [], [], [], [], [], [], [], [], [], [], [], [], [], _, [], _, [], _, [], _, [], [], [], [], [], [], []]
  case hm => rfl
  case hs => rfl
  case hst => kernel_rfl
  case hput => exact OpsOK.cons (fun _ _ => rfl) (OpsOK.cons (fun _ _ => rfl) (OpsOK.cons (fun _ _ => rfl) (OpsOK.cons (fun _ _ => rfl) (OpsOK.cons (fun _ _ => rfl) (OpsOK.cons (fun _ _ => rfl) (OpsOK.cons (fun _ _ => rfl) (OpsOK.cons (fun _ _ => rfl) (OpsOK.cons (fun _ _ => rfl) (OpsOK.cons (fun _ _ => rfl) (OpsOK.cons (fun _ _ => rfl) (OpsOK.cons (fun _ _ => rfl) (OpsOK.cons (fun _ _ => rfl) (OpsOK.cons (fun _ _ => rfl) (OpsOK.cons (fun _ _ => rfl) (OpsOK.cons (fun _ _ => rfl) (OpsOK.cons (fun _ _ => rfl) (OpsOK.cons (fun _ _ => rfl) (OpsOK.cons (fun _ _ => rfl) (OpsOK.cons (fun _ _ => rfl) (OpsOK.cons (fun _ _ => rfl) (OpsOK.cons (fun _ _ => rfl) (OpsOK.cons (fun _ _ => rfl) (OpsOK.cons (fun _ _ => rfl) (OpsOK.cons (fun _ _ => rfl) (OpsOK.cons (fun _ _ => rfl) (OpsOK.cons (fun _ _ => rfl) (OpsOK.cons (fun _ _ => rfl) (OpsOK.cons (fun _ _ => rfl) (OpsOK.cons (fun _ _ => rfl) (OpsOK.cons (fun _ _ => rfl) (OpsOK.cons (fun _ _ => rfl) (OpsOK.nil))))))))))))))))))))))))))))))))
  case hops =>
    refine OpsOK.cons ?_ ?_
    · intro u W K hB hd hK
      replace hK := hk_val hK (by decide) (by rfl)
      clear hd
      simp only [lay, Act.put, List.setIfInBounds_toArray, List.set_cons_zero, List.set_cons_succ] at hK ⊢
      go_simp
      exact hK.out _ _ rfl (Below.refl _ _)
    refine OpsOK.cons ?_ ?_
    · intro u W K hB hd hK
      have h0 := fact_val (dep_of hd 0 (by kernel_rfl) (by kernel_rfl)) (by decide)
      dsimp only [nth] at h0
      replace hK := hk_val hK (by decide) (by rfl)
      clear hd
      simp only [lay, Act.put, List.setIfInBounds_toArray, List.set_cons_zero, List.set_cons_succ, h0] at hK ⊢
      have hcv := OB.conv (hown1'.below hB)
      go_simp
      exact hK.out _ _ rfl (Below.refl _ _)
    refine OpsOK.cons ?_ ?_
    · intro u W K hB hd hK
      replace hK := hk_val hK (by decide) (by rfl)
      clear hd
      simp only [lay, Act.put, List.setIfInBounds_toArray, List.set_cons_zero, List.set_cons_succ] at hK ⊢
      go_simp
      exact hK.out _ _ rfl (Below.refl _ _)
    refine OpsOK.cons ?_ ?_
    · intro u W K hB hd hK
      have h2 := fact_val (dep_of hd 2 (by kernel_rfl) (by kernel_rfl)) (by decide)
      dsimp only [nth] at h2
      replace hK := hk_val hK (by decide) (by rfl)
      clear hd
      simp only [lay, Act.put, List.setIfInBounds_toArray, List.set_cons_zero, List.set_cons_succ, h2] at hK ⊢
      have hcv := OB.conv (hown2.below hB)
      go_simp
      exact hK.out _ _ rfl (Below.refl _ _)
    refine OpsOK.cons ?_ ?_
    · intro u W K hB hd hK
      have h1 := fact_val (dep_of hd 1 (by kernel_rfl) (by kernel_rfl)) (by decide)
      dsimp only [nth] at h1
      have h3 := fact_val (dep_of hd 3 (by kernel_rfl) (by kernel_rfl)) (by decide)
      dsimp only [nth] at h3
      replace hK := hk_val hK (by decide) (by rfl)
      clear hd
      simp only [lay, Act.put, List.setIfInBounds_toArray, List.set_cons_zero, List.set_cons_succ, h1, h3] at hK ⊢
      go_simp
      exact hK.out _ _ rfl (Below.refl _ _)
    refine OpsOK.cons ?_ ?_
    · intro u W K hB hd hK
      have h4 := fact_val (dep_of hd 4 (by kernel_rfl) (by kernel_rfl)) (by decide)
      dsimp only [nth] at h4
      replace hK := hk_val hK (by decide) (by rfl)
      clear hd
      simp only [lay, Act.put, List.setIfInBounds_toArray, List.set_cons_zero, List.set_cons_succ, h4] at hK ⊢
      go_simp
      exact hK.out _ _ rfl (Below.refl _ _)
    refine OpsOK.cons ?_ ?_
    · intro u W K hB hd hK
      have h5 := fact_val (dep_of hd 5 (by kernel_rfl) (by kernel_rfl)) (by decide)
      dsimp only [nth] at h5
      replace hK := hk_val hK (by decide) (by rfl)
      clear hd
      simp only [lay, Act.put, List.setIfInBounds_toArray, List.set_cons_zero, List.set_cons_succ, h5] at hK ⊢
      go_simp
      exact hK.out _ _ rfl (Below.refl _ _)
    refine OpsOK.cons ?_ ?_
    · intro u W K hB hd hK
      have h5 := fact_val (dep_of hd 5 (by kernel_rfl) (by kernel_rfl)) (by decide)
      dsimp only [nth] at h5
      replace hK := hk_val hK (by decide) (by rfl)
      clear hd
      simp only [lay, Act.put, List.setIfInBounds_toArray, List.set_cons_zero, List.set_cons_succ, h5] at hK ⊢
      go_simp
      exact hK.out _ _ rfl (Below.refl _ _)
    refine OpsOK.cons ?_ ?_
    · intro u W K hB hd hK
      have h5 := fact_val (dep_of hd 5 (by kernel_rfl) (by kernel_rfl)) (by decide)
      dsimp only [nth] at h5
      have h6 := fact_val (dep_of hd 6 (by kernel_rfl) (by kernel_rfl)) (by decide)
      dsimp only [nth] at h6
      have h7 := fact_val (dep_of hd 7 (by kernel_rfl) (by kernel_rfl)) (by decide)
      dsimp only [nth] at h7
      replace hK := hk_val hK (by decide) (by rfl)
      clear hd
      simp only [lay, Act.put, List.setIfInBounds_toArray, List.set_cons_zero, List.set_cons_succ, h5, h6, h7] at hK ⊢
      go_simp
      exact hK.out _ _ rfl (Below.refl _ _)
    refine OpsOK.cons ?_ ?_
    · intro u W K hB hd hK
      have h5 := fact_val (dep_of hd 5 (by kernel_rfl) (by kernel_rfl)) (by decide)
      dsimp only [nth] at h5
      have h8 := fact_val (dep_of hd 8 (by kernel_rfl) (by kernel_rfl)) (by decide)
      dsimp only [nth] at h8
      replace hK := hk_val hK (by decide) (by rfl)
      clear hd
      simp only [lay, Act.put, List.setIfInBounds_toArray, List.set_cons_zero, List.set_cons_succ, h5, h8] at hK ⊢
      go_simp
      exact hK.out _ _ rfl (Below.refl _ _)
    refine OpsOK.cons ?_ ?_
    · intro u W K hB hd hK
      have h5 := fact_val (dep_of hd 5 (by kernel_rfl) (by kernel_rfl)) (by decide)
      dsimp only [nth] at h5
      have h9 := fact_val (dep_of hd 9 (by kernel_rfl) (by kernel_rfl)) (by decide)
      dsimp only [nth] at h9
      replace hK := hk_val hK (by decide) (by rfl)
      clear hd
      simp only [lay, Act.put, List.setIfInBounds_toArray, List.set_cons_zero, List.set_cons_succ, h5, h9] at hK ⊢
      go_simp
      exact hK.out _ _ rfl (Below.refl _ _)
    refine OpsOK.cons ?_ ?_
    · intro u W K hB hd hK
      have h10 := fact_val (dep_of hd 10 (by kernel_rfl) (by kernel_rfl)) (by decide)
      dsimp only [nth] at h10
      replace hK := hk_val hK (by decide) (by rfl)
      clear hd
      simp only [lay, Act.put, List.setIfInBounds_toArray, List.set_cons_zero, List.set_cons_succ, h10] at hK ⊢
      go_simp
      exact hK.out _ _ rfl (Below.refl _ _)
    refine OpsOK.cons ?_ ?_
    · intro u W K hB hd hK
      have h10 := fact_val (dep_of hd 10 (by kernel_rfl) (by kernel_rfl)) (by decide)
      dsimp only [nth] at h10
      replace hK := hk_val hK (by decide) (by rfl)
      clear hd
      simp only [lay, Act.put, List.setIfInBounds_toArray, List.set_cons_zero, List.set_cons_succ, h10] at hK ⊢
      go_simp
      exact hK.out _ _ rfl (Below.refl _ _)
    refine OpsOK.cons ?_ ?_
    · intro u W K hB hd hK
      have h10 := fact_val (dep_of hd 10 (by kernel_rfl) (by kernel_rfl)) (by decide)
      dsimp only [nth] at h10
      have h11 := fact_val (dep_of hd 11 (by kernel_rfl) (by kernel_rfl)) (by decide)
      dsimp only [nth] at h11
      have h12 := fact_val (dep_of hd 12 (by kernel_rfl) (by kernel_rfl)) (by decide)
      dsimp only [nth] at h12
      replace hK := hk_val hK (by decide) (by rfl)
      clear hd
      simp only [lay, Act.put, List.setIfInBounds_toArray, List.set_cons_zero, List.set_cons_succ, h10, h11, h12] at hK ⊢
      go_simp
      exact hK.out _ _ rfl (Below.refl _ _)
    refine OpsOK.cons ?_ ?_
    · intro u W K hB hd hK
      have h10 := fact_val (dep_of hd 10 (by kernel_rfl) (by kernel_rfl)) (by decide)
      dsimp only [nth] at h10
      have h13 := fact_val (dep_of hd 13 (by kernel_rfl) (by kernel_rfl)) (by decide)
      dsimp only [nth] at h13
      replace hK := hk_val hK (by decide) (by rfl)
      clear hd
      simp only [lay, Act.put, List.setIfInBounds_toArray, List.set_cons_zero, List.set_cons_succ, h10, h13] at hK ⊢
      go_simp
      exact hK.out _ _ rfl (Below.refl _ _)
    refine OpsOK.cons ?_ ?_
    · intro u W K hB hd hK
      have h10 := fact_val (dep_of hd 10 (by kernel_rfl) (by kernel_rfl)) (by decide)
      dsimp only [nth] at h10
      have h14 := fact_val (dep_of hd 14 (by kernel_rfl) (by kernel_rfl)) (by decide)
      dsimp only [nth] at h14
      replace hK := hk_val hK (by decide) (by rfl)
      clear hd
      simp only [lay, Act.put, List.setIfInBounds_toArray, List.set_cons_zero, List.set_cons_succ, h10, h14] at hK ⊢
      go_simp
      exact hK.out _ _ rfl (Below.refl _ _)
    refine OpsOK.cons ?_ ?_
    · intro u W K hB hd hK
      have h15 := fact_val (dep_of hd 15 (by kernel_rfl) (by kernel_rfl)) (by decide)
      dsimp only [nth] at h15
      replace hK := hk_val hK (by decide) (by rfl)
      clear hd
      simp only [lay, Act.put, List.setIfInBounds_toArray, List.set_cons_zero, List.set_cons_succ, h15] at hK ⊢
      go_simp
      exact hK.out _ _ rfl (Below.refl _ _)
    refine OpsOK.cons ?_ ?_
    · intro u W K hB hd hK
      have h15 := fact_val (dep_of hd 15 (by kernel_rfl) (by kernel_rfl)) (by decide)
      dsimp only [nth] at h15
      replace hK := hk_val hK (by decide) (by rfl)
      clear hd
      simp only [lay, Act.put, List.setIfInBounds_toArray, List.set_cons_zero, List.set_cons_succ, h15] at hK ⊢
      go_simp
      exact hK.out _ _ rfl (Below.refl _ _)
    refine OpsOK.cons ?_ ?_
    · intro u W K hB hd hK
      have h15 := fact_val (dep_of hd 15 (by kernel_rfl) (by kernel_rfl)) (by decide)
      dsimp only [nth] at h15
      have h16 := fact_val (dep_of hd 16 (by kernel_rfl) (by kernel_rfl)) (by decide)
      dsimp only [nth] at h16
      have h17 := fact_val (dep_of hd 17 (by kernel_rfl) (by kernel_rfl)) (by decide)
      dsimp only [nth] at h17
      replace hK := hk_row hB hK (by decide) (by rfl)
      clear hd
      simp only [lay, Act.put, List.setIfInBounds_toArray, List.set_cons_zero, List.set_cons_succ, h15, h16, h17] at hK ⊢
      go_simp
      first
        | (go_at_call 24; (with_reducible refine (putbytes_any A n c xs A' m c' ys _ (h3.below hB) (h3'.below hB) (by omega)).mono ?_); rintro e w1 ⟨v1, rfl, hown, hb⟩; exact hK.out _ _ hown hb)
        | (go_at_call 25; (with_reducible refine (refputbytes_any _ _ xs A' m c' ys _ h22 hB.size (h3'.below hB) (OB.apart h22 h3') (by rw [HL.out]; omega)).mono ?_); rintro e w1 ⟨v1, rfl, hown, hgr, hat⟩; exact hK.out _ _ hown hgr hat)
        | (go_at_call 17; (with_reducible refine (awake_any _).mono ?_); rintro e w1 ⟨rfl, hb⟩; exact hK.out _ _ rfl hb)
    refine OpsOK.cons ?_ ?_
    · intro u W K hB hd hK
      have h15 := fact_val (dep_of hd 15 (by kernel_rfl) (by kernel_rfl)) (by decide)
      dsimp only [nth] at h15
      have h18 := fact_row (dep_of hd 18 (by kernel_rfl) (by kernel_rfl)) (by decide)
      dsimp only [nth] at h18
      replace hK := hk_val hK (by decide) (by rfl)
      clear hd
      simp only [lay, Act.put, List.setIfInBounds_toArray, List.set_cons_zero, List.set_cons_succ, h15] at hK ⊢
      have hcv := OB.conv h18
      go_simp
      exact hK.out _ _ rfl (Below.refl _ _)
    refine OpsOK.cons ?_ ?_
    · intro u W K hB hd hK
      have h15 := fact_val (dep_of hd 15 (by kernel_rfl) (by kernel_rfl)) (by decide)
      dsimp only [nth] at h15
      replace hK := hk_row hB hK (by decide) (by rfl)
      clear hd
      simp only [lay, Act.put, List.setIfInBounds_toArray, List.set_cons_zero, List.set_cons_succ, h15] at hK ⊢
      go_simp
      exact hK.out _ _ (OB.empty _ _ (Nat.le_refl _)) (below_alloc' (Below.refl _ _) _)
    refine OpsOK.cons ?_ ?_
    · intro u W K hB hd hK
      have h15 := fact_val (dep_of hd 15 (by kernel_rfl) (by kernel_rfl)) (by decide)
      dsimp only [nth] at h15
      replace hK := hk_val hK (by decide) (by rfl)
      clear hd
      simp only [lay, Act.put, List.setIfInBounds_toArray, List.set_cons_zero, List.set_cons_succ, h15] at hK ⊢
      go_simp
      exact hK.out _ _ rfl (Below.refl _ _)
    refine OpsOK.cons ?_ ?_
    · intro u W K hB hd hK
      have h15 := fact_val (dep_of hd 15 (by kernel_rfl) (by kernel_rfl)) (by decide)
      dsimp only [nth] at h15
      have h18 := fact_row (dep_of hd 18 (by kernel_rfl) (by kernel_rfl)) (by decide)
      dsimp only [nth] at h18
      have h20 := fact_row (dep_of hd 20 (by kernel_rfl) (by kernel_rfl)) (by decide)
      dsimp only [nth] at h20
      have h21 := fact_val (dep_of hd 21 (by kernel_rfl) (by kernel_rfl)) (by decide)
      dsimp only [nth] at h21
      replace hK := hk_par hK (by decide) 20 (by rfl)
      clear hd
      refine stepB_append _ _ _ (.tmp 47) (.tmp 48) (by rfl) (by simp only [lay, h15]; rfl) _ [] (by rfl) h20 A n c xs (by exact h21) (h3.below hB) (by rw [HL.out]; simp; omega) hB hB.size ?_; intro v' w' a b d f; exact hK.out _ _ (show OB _ _ _ xs from a) d f
    refine OpsOK.cons ?_ ?_
    · intro u W K hB hd hK
      have h15 := fact_val (dep_of hd 15 (by kernel_rfl) (by kernel_rfl)) (by decide)
      dsimp only [nth] at h15
      replace hK := hk_val hK (by decide) (by rfl)
      clear hd
      simp only [lay, Act.put, List.setIfInBounds_toArray, List.set_cons_zero, List.set_cons_succ, h15] at hK ⊢
      go_simp
      exact hK.out _ _ rfl (Below.refl _ _)
    refine OpsOK.cons ?_ ?_
    · intro u W K hB hd hK
      have h15 := fact_val (dep_of hd 15 (by kernel_rfl) (by kernel_rfl)) (by decide)
      dsimp only [nth] at h15
      have h22 := fact_row (dep_of hd 22 (by kernel_rfl) (by kernel_rfl)) (by decide)
      dsimp only [nth] at h22
      have h23 := fact_val (dep_of hd 23 (by kernel_rfl) (by kernel_rfl)) (by decide)
      dsimp only [nth] at h23
      replace hK := hk_par hK (by decide) 22 (by rfl)
      clear hd
      simp only [lay, Act.put, List.setIfInBounds_toArray, List.set_cons_zero, List.set_cons_succ, h15, h23] at hK ⊢
      go_simp
      first
        | (go_at_call 24; (with_reducible refine (putbytes_any A n c xs A' m c' ys _ (h3.below hB) (h3'.below hB) (by omega)).mono ?_); rintro e w1 ⟨v1, rfl, hown, hb⟩; exact hK.out _ _ hown hb)
        | (go_at_call 25; (with_reducible refine (refputbytes_any _ _ xs A' m c' ys _ h22 hB.size (h3'.below hB) (OB.apart h22 h3') (by rw [HL.out]; omega)).mono ?_); rintro e w1 ⟨v1, rfl, hown, hgr, hat⟩; exact hK.out _ _ hown hgr hat)
        | (go_at_call 17; (with_reducible refine (awake_any _).mono ?_); rintro e w1 ⟨rfl, hb⟩; exact hK.out _ _ rfl hb)
    refine OpsOK.cons ?_ ?_
    · intro u W K hB hd hK
      have h15 := fact_val (dep_of hd 15 (by kernel_rfl) (by kernel_rfl)) (by decide)
      dsimp only [nth] at h15
      have h24 := fact_row (dep_of hd 24 (by kernel_rfl) (by kernel_rfl)) (by decide)
      dsimp only [nth] at h24
      replace hK := hk_val hK (by decide) (by rfl)
      clear hd
      simp only [lay, Act.put, List.setIfInBounds_toArray, List.set_cons_zero, List.set_cons_succ, h15] at hK ⊢
      have hcv := OB.conv h24
      go_simp
      exact hK.out _ _ rfl (Below.refl _ _)
    refine OpsOK.cons ?_ ?_
    · intro u W K hB hd hK
      have h15 := fact_val (dep_of hd 15 (by kernel_rfl) (by kernel_rfl)) (by decide)
      dsimp only [nth] at h15
      have h19 := fact_val (dep_of hd 19 (by kernel_rfl) (by kernel_rfl)) (by decide)
      dsimp only [nth] at h19
      have h25 := fact_val (dep_of hd 25 (by kernel_rfl) (by kernel_rfl)) (by decide)
      dsimp only [nth] at h25
      replace hK := hk_val hK (by decide) (by rfl)
      clear hd
      simp only [lay, Act.put, List.setIfInBounds_toArray, List.set_cons_zero, List.set_cons_succ, h15, h19, h25] at hK ⊢
      go_simp
      exact hK.out _ _ rfl (Below.refl _ _)
    refine OpsOK.cons ?_ ?_
    · intro u W K hB hd hK
      have h15 := fact_val (dep_of hd 15 (by kernel_rfl) (by kernel_rfl)) (by decide)
      dsimp only [nth] at h15
      have h26 := fact_val (dep_of hd 26 (by kernel_rfl) (by kernel_rfl)) (by decide)
      dsimp only [nth] at h26
      replace hK := hk_val hK (by decide) (by rfl)
      clear hd
      simp only [lay, Act.put, List.setIfInBounds_toArray, List.set_cons_zero, List.set_cons_succ, h15, h26] at hK ⊢
      go_simp
      exact hK.out _ _ rfl (Below.refl _ _)
    refine OpsOK.cons ?_ ?_
    · intro u W K hB hd hK
      have h24 := fact_row (dep_of hd 24 (by kernel_rfl) (by kernel_rfl)) (by decide)
      dsimp only [nth] at h24
      have h27 := fact_val (dep_of hd 27 (by kernel_rfl) (by kernel_rfl)) (by decide)
      dsimp only [nth] at h27
      replace hK := hk_val hK (by decide) (by rfl)
      clear hd
      simp only [lay, Act.put, List.setIfInBounds_toArray, List.set_cons_zero, List.set_cons_succ, h27] at hK ⊢
      go_simp
      exact hK.out _ _ rfl (Below.refl _ _)
    refine OpsOK.cons ?_ ?_
    · intro u W K hB hd hK
      have h28 := fact_val (dep_of hd 28 (by kernel_rfl) (by kernel_rfl)) (by decide)
      dsimp only [nth] at h28
      replace hK := hk_val hK (by decide) (by rfl)
      clear hd
      simp only [lay, Act.put, List.setIfInBounds_toArray, List.set_cons_zero, List.set_cons_succ, h28] at hK ⊢
      go_simp
      first
        | (go_at_call 24; (with_reducible refine (putbytes_any A n c xs A' m c' ys _ (h3.below hB) (h3'.below hB) (by omega)).mono ?_); rintro e w1 ⟨v1, rfl, hown, hb⟩; exact hK.out _ _ hown hb)
        | (go_at_call 25; (with_reducible refine (refputbytes_any _ _ xs A' m c' ys _ h22 hB.size (h3'.below hB) (OB.apart h22 h3') (by rw [HL.out]; omega)).mono ?_); rintro e w1 ⟨v1, rfl, hown, hgr, hat⟩; exact hK.out _ _ hown hgr hat)
        | (go_at_call 17; (with_reducible refine (awake_any _).mono ?_); rintro e w1 ⟨rfl, hb⟩; exact hK.out _ _ rfl hb)
    refine OpsOK.cons ?_ ?_
    · intro u W K hB hd hK
      have h28 := fact_val (dep_of hd 28 (by kernel_rfl) (by kernel_rfl)) (by decide)
      dsimp only [nth] at h28
      have h29 := fact_val (dep_of hd 29 (by kernel_rfl) (by kernel_rfl)) (by decide)
      dsimp only [nth] at h29
      replace hK := hk_val hK (by decide) (by rfl)
      clear hd
      simp only [lay, Act.put, List.setIfInBounds_toArray, List.set_cons_zero, List.set_cons_succ, h28, h29] at hK ⊢
      go_simp
      exact hK.out _ _ rfl (Below.refl _ _)
    refine OpsOK.cons ?_ ?_
    · intro u W K hB hd hK
      have h29 := fact_val (dep_of hd 29 (by kernel_rfl) (by kernel_rfl)) (by decide)
      dsimp only [nth] at h29
      have h30 := fact_val (dep_of hd 30 (by kernel_rfl) (by kernel_rfl)) (by decide)
      dsimp only [nth] at h30
      replace hK := hk_val hK (by decide) (by rfl)
      clear hd
      simp only [lay, Act.put, List.setIfInBounds_toArray, List.set_cons_zero, List.set_cons_succ, h29, h30] at hK ⊢
      go_simp
      exact hK.out _ _ rfl (Below.refl _ _)
    exact OpsOK.nil
  intro u W hB hf
  have h0 := fact_val (hf 0 (by decide) (by decide)) (by decide)
  dsimp only [nth] at h0
  have h1 := fact_val (hf 1 (by decide) (by decide)) (by decide)
  dsimp only [nth] at h1
  have h2 := fact_val (hf 2 (by decide) (by decide)) (by decide)
  dsimp only [nth] at h2
  have h3 := fact_val (hf 3 (by decide) (by decide)) (by decide)
  dsimp only [nth] at h3
  have h4 := fact_val (hf 4 (by decide) (by decide)) (by decide)
  dsimp only [nth] at h4
  have h5 := fact_val (hf 5 (by decide) (by decide)) (by decide)
  dsimp only [nth] at h5
  have h6 := fact_val (hf 6 (by decide) (by decide)) (by decide)
  dsimp only [nth] at h6
  have h7 := fact_val (hf 7 (by decide) (by decide)) (by decide)
  dsimp only [nth] at h7
  have h8 := fact_val (hf 8 (by decide) (by decide)) (by decide)
  dsimp only [nth] at h8
  have h9 := fact_val (hf 9 (by decide) (by decide)) (by decide)
  dsimp only [nth] at h9
  have h10 := fact_val (hf 10 (by decide) (by decide)) (by decide)
  dsimp only [nth] at h10
  have h11 := fact_val (hf 11 (by decide) (by decide)) (by decide)
  dsimp only [nth] at h11
  have h12 := fact_val (hf 12 (by decide) (by decide)) (by decide)
  dsimp only [nth] at h12
  have h13 := fact_val (hf 13 (by decide) (by decide)) (by decide)
  dsimp only [nth] at h13
  have h14 := fact_val (hf 14 (by decide) (by decide)) (by decide)
  dsimp only [nth] at h14
  have h15 := fact_val (hf 15 (by decide) (by decide)) (by decide)
  dsimp only [nth] at h15
  have h16 := fact_val (hf 16 (by decide) (by decide)) (by decide)
  dsimp only [nth] at h16
  have h17 := fact_val (hf 17 (by decide) (by decide)) (by decide)
  dsimp only [nth] at h17
  have h18 := fact_row (hf 18 (by decide) (by decide)) (by decide)
  dsimp only [nth] at h18
  have h19 := fact_val (hf 19 (by decide) (by decide)) (by decide)
  dsimp only [nth] at h19
  have h21 := fact_val (hf 21 (by decide) (by decide)) (by decide)
  dsimp only [nth] at h21
  have h23 := fact_val (hf 23 (by decide) (by decide)) (by decide)
  dsimp only [nth] at h23
  have h24 := fact_row (hf 24 (by decide) (by decide)) (by decide)
  dsimp only [nth] at h24
  have h25 := fact_val (hf 25 (by decide) (by decide)) (by decide)
  dsimp only [nth] at h25
  have h26 := fact_val (hf 26 (by decide) (by decide)) (by decide)
  dsimp only [nth] at h26
  have h27 := fact_val (hf 27 (by decide) (by decide)) (by decide)
  dsimp only [nth] at h27
  have h28 := fact_val (hf 28 (by decide) (by decide)) (by decide)
  dsimp only [nth] at h28
  have h29 := fact_val (hf 29 (by decide) (by decide)) (by decide)
  dsimp only [nth] at h29
  have h30 := fact_val (hf 30 (by decide) (by decide)) (by decide)
  dsimp only [nth] at h30
  have h31 := fact_val (hf 31 (by decide) (by decide)) (by decide)
  dsimp only [nth] at h31
  clear hf
  simp only [lay, h0, h1, h2, h3, h4, h5, h6, h7, h8, h9, h10, h11, h12, h13, h14, h15, h16, h17, h19, h21, h23, h25, h26, h27, h28, h29, h30, h31]
  clear h0 h1 h2 h3 h4 h5 h6 h7 h8 h9 h10 h11 h12 h13 h14 h15 h16 h17 h19 h21 h23 h25 h26 h27 h28 h29 h30 h31
  go_wp2
  go_ret
  exact ⟨rfl, below_then hB0 hB⟩
theorem VintBytes_walk (A : Option Addr) (n c : Nat) (xs : List UInt8) (A' : Option Addr) (m c' : Nat) (ys : List UInt8) (z : Int) (w : World) (h : RB w A n xs) (hc : n ≤ c) (hsz : n ≤ 1048576) (h' : RB w A' m ys) (hc' : m ≤ c') (hsz' : m ≤ 1048576) (hz : (Lit.int .i64 z).wf = true) :
    Calls Try.prog 5 #[.slice A n c, .slice A' m c', .int .i64 z] w fun e w' => e = .returned (.bool true) ∧ Below w.heap.size w w' :=
  VintBytes_walk0 A n c xs A' m c' ys z w h hc hsz h' hc' hsz' (wf_i64 hz)
end Go.Proofs.Ytbjpbnflioiccaa
