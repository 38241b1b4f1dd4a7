/- Layer 8: any batch: may it be; its bytes, its entries: the walk of the statement. -/
import Derived.Test.YtdhmonomhifkkaaBaU
namespace Go.Proofs.Ytdhmonomhifkkaa
open Go.RowKit
set_option linter.unusedVariables false
set_option linter.unusedSimpArgs false

theorem ER_ofN {w : World} {base : Nat} {v : Value} {V : List (List Value)} {L : List EnR} {M : Nat} (hM : L.length = M) (h : OV w base 41 5 v V) (hr : RelV noEn (PEnR w) V L) : ∃ A c, v = .slice A M c ∧ ER w A M L := by
  subst hM
  exact ER_of h hr
theorem ER.below {w w' : World} {A : Option Addr} {n : Nat} {L : List EnR} (h : ER w A n L) (hb : Below w.heap.size w w') : ER w' A n L := fun hn => by
  obtain ⟨g, e, hc⟩ := h hn
  refine ⟨g, e, fun k hk => ?_⟩
  obtain ⟨Ak, nk, ck, Av, nv, cv, a0, a1, a2, a3, a4, a5, a6⟩ := hc k hk
  exact ⟨Ak, nk, ck, Av, nv, cv, below_cell hb a0, below_cell hb a1, below_cell hb a2, below_cell hb a3, below_cell hb a4, a5.below hb, a6.below hb⟩
set_option maxHeartbeats 16000000 in
set_option maxRecDepth 100000 in
theorem BatchEncodes_walk (s : Int) (A : Option Addr) (n c : Nat) (ops : List OpR) (w : World) (h : ROps w A n ops) (hs : -9223372036854775808 ≤ s ∧ s ≤ 9223372036854775807) :
    Calls Try.prog 4 #[.agg #[.int .i64 s, .slice A n c]] w fun e w' => e = .returned (.bool true) ∧ Below w.heap.size w w' := by
  obtain ⟨E, hE⟩ : ∃ E, mayE s ops = E := ⟨_, rfl⟩
  obtain ⟨X, hX⟩ : ∃ X, encB s ops = X := ⟨_, rfl⟩
  obtain ⟨M, hM⟩ : ∃ M, (entX s ops).length = M := ⟨_, rfl⟩
  have hM4 : M ≤ 400 := by rw [← hM]; exact entX_len s ops
  have HE := hid hE
  have HX := hid hX
  have HM := hid hM
  have HH := hid (h.below (below_alloc' (Below.refl _ _) (.cells #[.int .i64 s, .slice A n c] 24)))
  clear hE hX hM h
  go_enter Try.func4, Try.ntmps4
  go_wp2_with (first
    | (go_at_call 12; (with_reducible refine (heavy_any s A n c ops _ HH.out hs).mono ?_); rintro e w1 ⟨⟨b, rfl⟩, hbx⟩; have hbk1 := blk_grown' (below_grown hbx none) (heap_alloc_new w _) (by simp); have hx0 := box_at hbk1 0 (.int .i64 s) rfl; have hx1 := box_at hbk1 1 (.slice A n c) rfl; have hO1 := HH.out.below hbx; have hb1 := below_then (below_alloc' (Below.refl _ _) _) hbx)
    | (go_at_call 11; (with_reducible refine (awake_any _).mono ?_); rintro e w2 ⟨rfl, hb2⟩)
    | (go_at_call 7; (with_reducible refine (encode_any s A n c ops _ hO1 hs).mono ?_); rintro e w2 ⟨v2, rfl, hown2, hb2⟩; rw [HE.out]; rw [HX.out] at hown2; have hbk2 := blk_below hb2 hbk1; have hx2 := box_at hbk2 0 (.int .i64 s) rfl; have hx3 := box_at hbk2 1 (.slice A n c) rfl; have hO2 := hO1.below hb2; have hb2 := below_then hb1 hb2)
    | (go_at_call 8; (with_reducible refine (refenc_any s A n c ops _ hO2 hs).mono ?_); rintro e w3 ⟨v3, rfl, hown3, hb3⟩; rw [HE.out]; rw [HX.out] at hown3; have hbk3 := blk_below hb3 hbk2; have hx4 := box_at hbk3 0 (.int .i64 s) rfl; have hx5 := box_at hbk3 1 (.slice A n c) rfl; have hO3 := hO2.below hb3; have hown2 := hown2.below hb3; have hb3 := below_then hb2 hb3)
    | (go_at_call 13; (with_reducible refine (entries_all s A n c ops _ hO3 hs).mono ?_); rintro e w4 ⟨v4, V4, rfl, hov4, hre4, hb4⟩; rw [HE.out]; obtain ⟨A4, c4, rfl, her4⟩ := ER_ofN HM.out hov4 hre4; have hbk4 := blk_below hb4 hbk3; have hx6 := box_at hbk4 0 (.int .i64 s) rfl; have hx7 := box_at hbk4 1 (.slice A n c) rfl; have hO4 := hO3.below hb4; have hown2 := hown2.below hb4; have hown3 := hown3.below hb4; have hb4 := below_then hb3 hb4)
    | (go_at_call 14; (with_reducible refine (refentries_all s A n c ops _ hO4 hs).mono ?_); rintro e w5 ⟨v5, V5, rfl, hov5, hre5, hb5⟩; rw [HE.out]; obtain ⟨A5, c5, rfl, her5⟩ := ER_ofN HM.out hov5 hre5; have hbk5 := blk_below hb5 hbk4; have hO5 := hO4.below hb5; have hown2 := hown2.below hb5; have hown3 := hown3.below hb5; have her4 := her4.below hb5; have hb5 := below_then hb4 hb5))
  · go_ret
    exact ⟨rfl, below_then hb1 hb2⟩
  · clear hx0 hx1 hx2 hx3 hx4 hx5 hx6 hx7 hbk1 hbk2 hbk3 hbk4 hO1 hO2 hO3 hO4 hb1 hbx hov4 hre4 hov5 hre5
    apply wp_region_txt [none, none, some 30, none, none, none, none, none, none, none, none, none, none, none, none, none, none, none, none, none, none, none, none, none, none, none, none, none, none, none, none, none, none, none, some 0, some 1, some 2, some 3, some 4, some 5, some 6, some 7, some 8, some 9, some 10, some 11, some 12, some 13, some 14, some 15, some 16, some 17, some 18, some 19, some 20, some 21, some 22, some 23, some 24, some 25, some 26, some 27, some 28, some 29] [] [] [_, _, _, _, _, _, _, _, _, _, _, _, _, _, _, _, _, _, _, _, _, _, _, _, _, _, _, _, _, _, _] [[], [], [], [], [], [], [], [], [], [], [], [], [], [], [], [], [], [], [], [], [], [], [], [], [], [], [], [], [], [], []]
    case hm => rfl
    case hs => rfl
    case hst => kernel_rfl
    case hput => exact OpsOK.cons (fun _ _ => rfl) (OpsOK.cons (fun _ _ => rfl) (OpsOK.cons (fun _ _ => rfl) (OpsOK.cons (fun _ _ => rfl) (OpsOK.cons (fun _ _ => rfl) (OpsOK.cons (fun _ _ => rfl) (OpsOK.cons (fun _ _ => rfl) (OpsOK.cons (fun _ _ => rfl) (OpsOK.cons (fun _ _ => rfl) (OpsOK.cons (fun _ _ => rfl) (OpsOK.cons (fun _ _ => rfl) (OpsOK.cons (fun _ _ => rfl) (OpsOK.cons (fun _ _ => rfl) (OpsOK.cons (fun _ _ => rfl) (OpsOK.cons (fun _ _ => rfl) (OpsOK.cons (fun _ _ => rfl) (OpsOK.cons (fun _ _ => rfl) (OpsOK.cons (fun _ _ => rfl) (OpsOK.cons (fun _ _ => rfl) (OpsOK.cons (fun _ _ => rfl) (OpsOK.cons (fun _ _ => rfl) (OpsOK.cons (fun _ _ => rfl) (OpsOK.cons (fun _ _ => rfl) (OpsOK.cons (fun _ _ => rfl) (OpsOK.cons (fun _ _ => rfl) (OpsOK.cons (fun _ _ => rfl) (OpsOK.cons (fun _ _ => rfl) (OpsOK.cons (fun _ _ => rfl) (OpsOK.cons (fun _ _ => rfl) (OpsOK.cons (fun _ _ => rfl) (OpsOK.cons (fun _ _ => rfl) (OpsOK.nil)))))))))))))))))))))))))))))))
    case hops =>
      refine OpsOK.cons ?_ ?_
      · intro u W K hB hd hK
        replace hK := hk_val hK (by decide) (by rfl)
        clear hd
        simp only [lay, Act.put, List.setIfInBounds_toArray, List.set_cons_zero, List.set_cons_succ] at hK ⊢
        have q0 := box_at (blk_below hB hbk5) 0 (.int .i64 s) rfl
        have q1 := box_at (blk_below hB hbk5) 1 (.slice A n c) rfl
        go_simp
        exact hK.out _ _ rfl (Below.refl _ _)
      refine OpsOK.cons ?_ ?_
      · intro u W K hB hd hK
        have h0 := fact_val (dep_of hd 0 (by kernel_rfl) (by kernel_rfl)) (by decide)
        dsimp only [nth] at h0
        replace hK := hk_val hK (by decide) (by rfl)
        clear hd
        simp only [lay, Act.put, List.setIfInBounds_toArray, List.set_cons_zero, List.set_cons_succ, h0] at hK ⊢
        go_simp
        first
          | (go_at_call 9; (with_reducible refine (may_any s A n c ops W (hO5.below hB) hs).mono ?_); rintro e w1 ⟨rfl, hb⟩; rw [HE.out]; exact hK.out _ _ rfl hb)
          | (go_at_call 10; (with_reducible refine (refmay_any s A n c ops W (hO5.below hB) hs).mono ?_); rintro e w1 ⟨rfl, hb⟩; rw [HE.out]; exact hK.out _ _ rfl hb)
          | (go_at_call 15; (with_reducible refine (sameentries_any A4 c4 A5 c5 M (entX s ops) W (her4.below hB) (her5.below hB) hM4).mono ?_); rintro e w1 ⟨rfl, hb⟩; exact hK.out _ _ rfl hb)
          | (go_at_call 11; (with_reducible refine (awake_any _).mono ?_); rintro e w1 ⟨rfl, hb⟩; exact hK.out _ _ rfl hb)
      refine OpsOK.cons ?_ ?_
      · intro u W K hB hd hK
        replace hK := hk_val hK (by decide) (by rfl)
        clear hd
        simp only [lay, Act.put, List.setIfInBounds_toArray, List.set_cons_zero, List.set_cons_succ] at hK ⊢
        have q0 := box_at (blk_below hB hbk5) 0 (.int .i64 s) rfl
        have q1 := box_at (blk_below hB hbk5) 1 (.slice A n c) rfl
        go_simp
        exact hK.out _ _ rfl (Below.refl _ _)
      refine OpsOK.cons ?_ ?_
      · intro u W K hB hd hK
        have h1 := fact_val (dep_of hd 1 (by kernel_rfl) (by kernel_rfl)) (by decide)
        dsimp only [nth] at h1
        have h2 := fact_val (dep_of hd 2 (by kernel_rfl) (by kernel_rfl)) (by decide)
        dsimp only [nth] at h2
        replace hK := hk_val hK (by decide) (by rfl)
        clear hd
        simp only [lay, Act.put, List.setIfInBounds_toArray, List.set_cons_zero, List.set_cons_succ, h1, h2] at hK ⊢
        go_simp
        first
          | (go_at_call 9; (with_reducible refine (may_any s A n c ops W (hO5.below hB) hs).mono ?_); rintro e w1 ⟨rfl, hb⟩; rw [HE.out]; exact hK.out _ _ rfl hb)
          | (go_at_call 10; (with_reducible refine (refmay_any s A n c ops W (hO5.below hB) hs).mono ?_); rintro e w1 ⟨rfl, hb⟩; rw [HE.out]; exact hK.out _ _ rfl hb)
          | (go_at_call 15; (with_reducible refine (sameentries_any A4 c4 A5 c5 M (entX s ops) W (her4.below hB) (her5.below hB) hM4).mono ?_); rintro e w1 ⟨rfl, hb⟩; exact hK.out _ _ rfl hb)
          | (go_at_call 11; (with_reducible refine (awake_any _).mono ?_); rintro e w1 ⟨rfl, hb⟩; exact hK.out _ _ rfl hb)
      refine OpsOK.cons ?_ ?_
      · intro u W K hB hd hK
        have h1 := fact_val (dep_of hd 1 (by kernel_rfl) (by kernel_rfl)) (by decide)
        dsimp only [nth] at h1
        have h3 := fact_val (dep_of hd 3 (by kernel_rfl) (by kernel_rfl)) (by decide)
        dsimp only [nth] at h3
        replace hK := hk_val hK (by decide) (by rfl)
        clear hd
        simp only [lay, Act.put, List.setIfInBounds_toArray, List.set_cons_zero, List.set_cons_succ, h1, h3] at hK ⊢
        go_simp
        exact hK.out _ _ rfl (Below.refl _ _)
      refine OpsOK.cons ?_ ?_
      · intro u W K hB hd hK
        have h3 := fact_val (dep_of hd 3 (by kernel_rfl) (by kernel_rfl)) (by decide)
        dsimp only [nth] at h3
        have h4 := fact_val (dep_of hd 4 (by kernel_rfl) (by kernel_rfl)) (by decide)
        dsimp only [nth] at h4
        replace hK := hk_val hK (by decide) (by rfl)
        clear hd
        simp only [lay, Act.put, List.setIfInBounds_toArray, List.set_cons_zero, List.set_cons_succ, h3, h4] at hK ⊢
        go_simp
        exact hK.out _ _ rfl (Below.refl _ _)
      refine OpsOK.cons ?_ ?_
      · intro u W K hB hd hK
        have h5 := fact_val (dep_of hd 5 (by kernel_rfl) (by kernel_rfl)) (by decide)
        dsimp only [nth] at h5
        replace hK := hk_val hK (by decide) (by rfl)
        clear hd
        simp only [lay, Act.put, List.setIfInBounds_toArray, List.set_cons_zero, List.set_cons_succ, h5] at hK ⊢
        go_simp
        exact hK.out _ _ rfl (Below.refl _ _)
      refine OpsOK.cons ?_ ?_
      · intro u W K hB hd hK
        have h5 := fact_val (dep_of hd 5 (by kernel_rfl) (by kernel_rfl)) (by decide)
        dsimp only [nth] at h5
        have h6 := fact_val (dep_of hd 6 (by kernel_rfl) (by kernel_rfl)) (by decide)
        dsimp only [nth] at h6
        replace hK := hk_val hK (by decide) (by rfl)
        clear hd
        simp only [lay, Act.put, List.setIfInBounds_toArray, List.set_cons_zero, List.set_cons_succ, h5, h6] at hK ⊢
        have hcv := OB.conv (hown2.below hB)
        go_simp
        exact hK.out _ _ rfl (Below.refl _ _)
      refine OpsOK.cons ?_ ?_
      · intro u W K hB hd hK
        have h5 := fact_val (dep_of hd 5 (by kernel_rfl) (by kernel_rfl)) (by decide)
        dsimp only [nth] at h5
        replace hK := hk_val hK (by decide) (by rfl)
        clear hd
        simp only [lay, Act.put, List.setIfInBounds_toArray, List.set_cons_zero, List.set_cons_succ, h5] at hK ⊢
        go_simp
        exact hK.out _ _ rfl (Below.refl _ _)
      refine OpsOK.cons ?_ ?_
      · intro u W K hB hd hK
        have h5 := fact_val (dep_of hd 5 (by kernel_rfl) (by kernel_rfl)) (by decide)
        dsimp only [nth] at h5
        have h8 := fact_val (dep_of hd 8 (by kernel_rfl) (by kernel_rfl)) (by decide)
        dsimp only [nth] at h8
        replace hK := hk_val hK (by decide) (by rfl)
        clear hd
        simp only [lay, Act.put, List.setIfInBounds_toArray, List.set_cons_zero, List.set_cons_succ, h5, h8] at hK ⊢
        have hcv := OB.conv (hown3.below hB)
        go_simp
        exact hK.out _ _ rfl (Below.refl _ _)
      refine OpsOK.cons ?_ ?_
      · intro u W K hB hd hK
        have h5 := fact_val (dep_of hd 5 (by kernel_rfl) (by kernel_rfl)) (by decide)
        dsimp only [nth] at h5
        have h7 := fact_val (dep_of hd 7 (by kernel_rfl) (by kernel_rfl)) (by decide)
        dsimp only [nth] at h7
        have h9 := fact_val (dep_of hd 9 (by kernel_rfl) (by kernel_rfl)) (by decide)
        dsimp only [nth] at h9
        replace hK := hk_val hK (by decide) (by rfl)
        clear hd
        simp only [lay, Act.put, List.setIfInBounds_toArray, List.set_cons_zero, List.set_cons_succ, h5, h7, h9] at hK ⊢
        go_simp
        exact hK.out _ _ rfl (Below.refl _ _)
      refine OpsOK.cons ?_ ?_
      · intro u W K hB hd hK
        have h5 := fact_val (dep_of hd 5 (by kernel_rfl) (by kernel_rfl)) (by decide)
        dsimp only [nth] at h5
        have h10 := fact_val (dep_of hd 10 (by kernel_rfl) (by kernel_rfl)) (by decide)
        dsimp only [nth] at h10
        replace hK := hk_val hK (by decide) (by rfl)
        clear hd
        simp only [lay, Act.put, List.setIfInBounds_toArray, List.set_cons_zero, List.set_cons_succ, h5, h10] at hK ⊢
        go_simp
        exact hK.out _ _ rfl (Below.refl _ _)
      refine OpsOK.cons ?_ ?_
      · intro u W K hB hd hK
        have h5 := fact_val (dep_of hd 5 (by kernel_rfl) (by kernel_rfl)) (by decide)
        dsimp only [nth] at h5
        have h11 := fact_val (dep_of hd 11 (by kernel_rfl) (by kernel_rfl)) (by decide)
        dsimp only [nth] at h11
        replace hK := hk_val hK (by decide) (by rfl)
        clear hd
        simp only [lay, Act.put, List.setIfInBounds_toArray, List.set_cons_zero, List.set_cons_succ, h5, h11] at hK ⊢
        go_simp
        exact hK.out _ _ rfl (Below.refl _ _)
      refine OpsOK.cons ?_ ?_
      · intro u W K hB hd hK
        have h12 := fact_val (dep_of hd 12 (by kernel_rfl) (by kernel_rfl)) (by decide)
        dsimp only [nth] at h12
        replace hK := hk_val hK (by decide) (by rfl)
        clear hd
        simp only [lay, Act.put, List.setIfInBounds_toArray, List.set_cons_zero, List.set_cons_succ, h12] at hK ⊢
        go_simp
        exact hK.out _ _ rfl (Below.refl _ _)
      refine OpsOK.cons ?_ ?_
      · intro u W K hB hd hK
        have h12 := fact_val (dep_of hd 12 (by kernel_rfl) (by kernel_rfl)) (by decide)
        dsimp only [nth] at h12
        replace hK := hk_val hK (by decide) (by rfl)
        clear hd
        simp only [lay, Act.put, List.setIfInBounds_toArray, List.set_cons_zero, List.set_cons_succ, h12] at hK ⊢
        go_simp
        exact hK.out _ _ rfl (Below.refl _ _)
      refine OpsOK.cons ?_ ?_
      · intro u W K hB hd hK
        have h12 := fact_val (dep_of hd 12 (by kernel_rfl) (by kernel_rfl)) (by decide)
        dsimp only [nth] at h12
        have h13 := fact_val (dep_of hd 13 (by kernel_rfl) (by kernel_rfl)) (by decide)
        dsimp only [nth] at h13
        have h14 := fact_val (dep_of hd 14 (by kernel_rfl) (by kernel_rfl)) (by decide)
        dsimp only [nth] at h14
        replace hK := hk_val hK (by decide) (by rfl)
        clear hd
        simp only [lay, Act.put, List.setIfInBounds_toArray, List.set_cons_zero, List.set_cons_succ, h12, h13, h14] at hK ⊢
        go_simp
        exact hK.out _ _ rfl (Below.refl _ _)
      refine OpsOK.cons ?_ ?_
      · intro u W K hB hd hK
        have h12 := fact_val (dep_of hd 12 (by kernel_rfl) (by kernel_rfl)) (by decide)
        dsimp only [nth] at h12
        have h15 := fact_val (dep_of hd 15 (by kernel_rfl) (by kernel_rfl)) (by decide)
        dsimp only [nth] at h15
        replace hK := hk_val hK (by decide) (by rfl)
        clear hd
        simp only [lay, Act.put, List.setIfInBounds_toArray, List.set_cons_zero, List.set_cons_succ, h12, h15] at hK ⊢
        go_simp
        exact hK.out _ _ rfl (Below.refl _ _)
      refine OpsOK.cons ?_ ?_
      · intro u W K hB hd hK
        have h12 := fact_val (dep_of hd 12 (by kernel_rfl) (by kernel_rfl)) (by decide)
        dsimp only [nth] at h12
        have h16 := fact_val (dep_of hd 16 (by kernel_rfl) (by kernel_rfl)) (by decide)
        dsimp only [nth] at h16
        replace hK := hk_val hK (by decide) (by rfl)
        clear hd
        simp only [lay, Act.put, List.setIfInBounds_toArray, List.set_cons_zero, List.set_cons_succ, h12, h16] at hK ⊢
        go_simp
        exact hK.out _ _ rfl (Below.refl _ _)
      refine OpsOK.cons ?_ ?_
      · intro u W K hB hd hK
        have h17 := fact_val (dep_of hd 17 (by kernel_rfl) (by kernel_rfl)) (by decide)
        dsimp only [nth] at h17
        replace hK := hk_val hK (by decide) (by rfl)
        clear hd
        simp only [lay, Act.put, List.setIfInBounds_toArray, List.set_cons_zero, List.set_cons_succ, h17] at hK ⊢
        go_simp
        exact hK.out _ _ rfl (Below.refl _ _)
      refine OpsOK.cons ?_ ?_
      · intro u W K hB hd hK
        have h17 := fact_val (dep_of hd 17 (by kernel_rfl) (by kernel_rfl)) (by decide)
        dsimp only [nth] at h17
        replace hK := hk_val hK (by decide) (by rfl)
        clear hd
        simp only [lay, Act.put, List.setIfInBounds_toArray, List.set_cons_zero, List.set_cons_succ, h17] at hK ⊢
        go_simp
        exact hK.out _ _ rfl (Below.refl _ _)
      refine OpsOK.cons ?_ ?_
      · intro u W K hB hd hK
        have h17 := fact_val (dep_of hd 17 (by kernel_rfl) (by kernel_rfl)) (by decide)
        dsimp only [nth] at h17
        have h18 := fact_val (dep_of hd 18 (by kernel_rfl) (by kernel_rfl)) (by decide)
        dsimp only [nth] at h18
        have h19 := fact_val (dep_of hd 19 (by kernel_rfl) (by kernel_rfl)) (by decide)
        dsimp only [nth] at h19
        replace hK := hk_val hK (by decide) (by rfl)
        clear hd
        simp only [lay, Act.put, List.setIfInBounds_toArray, List.set_cons_zero, List.set_cons_succ, h17, h18, h19] at hK ⊢
        go_simp
        first
          | (go_at_call 9; (with_reducible refine (may_any s A n c ops W (hO5.below hB) hs).mono ?_); rintro e w1 ⟨rfl, hb⟩; rw [HE.out]; exact hK.out _ _ rfl hb)
          | (go_at_call 10; (with_reducible refine (refmay_any s A n c ops W (hO5.below hB) hs).mono ?_); rintro e w1 ⟨rfl, hb⟩; rw [HE.out]; exact hK.out _ _ rfl hb)
          | (go_at_call 15; (with_reducible refine (sameentries_any A4 c4 A5 c5 M (entX s ops) W (her4.below hB) (her5.below hB) hM4).mono ?_); rintro e w1 ⟨rfl, hb⟩; exact hK.out _ _ rfl hb)
          | (go_at_call 11; (with_reducible refine (awake_any _).mono ?_); rintro e w1 ⟨rfl, hb⟩; exact hK.out _ _ rfl hb)
      refine OpsOK.cons ?_ ?_
      · intro u W K hB hd hK
        have h17 := fact_val (dep_of hd 17 (by kernel_rfl) (by kernel_rfl)) (by decide)
        dsimp only [nth] at h17
        have h20 := fact_val (dep_of hd 20 (by kernel_rfl) (by kernel_rfl)) (by decide)
        dsimp only [nth] at h20
        replace hK := hk_val hK (by decide) (by rfl)
        clear hd
        simp only [lay, Act.put, List.setIfInBounds_toArray, List.set_cons_zero, List.set_cons_succ, h17, h20] at hK ⊢
        go_simp
        exact hK.out _ _ rfl (Below.refl _ _)
      refine OpsOK.cons ?_ ?_
      · intro u W K hB hd hK
        have h20 := fact_val (dep_of hd 20 (by kernel_rfl) (by kernel_rfl)) (by decide)
        dsimp only [nth] at h20
        have h21 := fact_val (dep_of hd 21 (by kernel_rfl) (by kernel_rfl)) (by decide)
        dsimp only [nth] at h21
        replace hK := hk_val hK (by decide) (by rfl)
        clear hd
        simp only [lay, Act.put, List.setIfInBounds_toArray, List.set_cons_zero, List.set_cons_succ, h20, h21] at hK ⊢
        go_simp
        exact hK.out _ _ rfl (Below.refl _ _)
      refine OpsOK.cons ?_ ?_
      · intro u W K hB hd hK
        have h22 := fact_val (dep_of hd 22 (by kernel_rfl) (by kernel_rfl)) (by decide)
        dsimp only [nth] at h22
        replace hK := hk_val hK (by decide) (by rfl)
        clear hd
        simp only [lay, Act.put, List.setIfInBounds_toArray, List.set_cons_zero, List.set_cons_succ, h22] at hK ⊢
        go_simp
        exact hK.out _ _ rfl (Below.refl _ _)
      refine OpsOK.cons ?_ ?_
      · intro u W K hB hd hK
        have h22 := fact_val (dep_of hd 22 (by kernel_rfl) (by kernel_rfl)) (by decide)
        dsimp only [nth] at h22
        replace hK := hk_val hK (by decide) (by rfl)
        clear hd
        simp only [lay, Act.put, List.setIfInBounds_toArray, List.set_cons_zero, List.set_cons_succ, h22] at hK ⊢
        go_simp
        exact hK.out _ _ rfl (Below.refl _ _)
      refine OpsOK.cons ?_ ?_
      · intro u W K hB hd hK
        have h22 := fact_val (dep_of hd 22 (by kernel_rfl) (by kernel_rfl)) (by decide)
        dsimp only [nth] at h22
        have h23 := fact_val (dep_of hd 23 (by kernel_rfl) (by kernel_rfl)) (by decide)
        dsimp only [nth] at h23
        have h24 := fact_val (dep_of hd 24 (by kernel_rfl) (by kernel_rfl)) (by decide)
        dsimp only [nth] at h24
        replace hK := hk_val hK (by decide) (by rfl)
        clear hd
        simp only [lay, Act.put, List.setIfInBounds_toArray, List.set_cons_zero, List.set_cons_succ, h22, h23, h24] at hK ⊢
        go_simp
        exact hK.out _ _ rfl (Below.refl _ _)
      refine OpsOK.cons ?_ ?_
      · intro u W K hB hd hK
        have h22 := fact_val (dep_of hd 22 (by kernel_rfl) (by kernel_rfl)) (by decide)
        dsimp only [nth] at h22
        have h25 := fact_val (dep_of hd 25 (by kernel_rfl) (by kernel_rfl)) (by decide)
        dsimp only [nth] at h25
        replace hK := hk_val hK (by decide) (by rfl)
        clear hd
        simp only [lay, Act.put, List.setIfInBounds_toArray, List.set_cons_zero, List.set_cons_succ, h22, h25] at hK ⊢
        go_simp
        exact hK.out _ _ rfl (Below.refl _ _)
      refine OpsOK.cons ?_ ?_
      · intro u W K hB hd hK
        have h22 := fact_val (dep_of hd 22 (by kernel_rfl) (by kernel_rfl)) (by decide)
        dsimp only [nth] at h22
        have h26 := fact_val (dep_of hd 26 (by kernel_rfl) (by kernel_rfl)) (by decide)
        dsimp only [nth] at h26
        replace hK := hk_val hK (by decide) (by rfl)
        clear hd
        simp only [lay, Act.put, List.setIfInBounds_toArray, List.set_cons_zero, List.set_cons_succ, h22, h26] at hK ⊢
        go_simp
        exact hK.out _ _ rfl (Below.refl _ _)
      refine OpsOK.cons ?_ ?_
      · intro u W K hB hd hK
        have h27 := fact_val (dep_of hd 27 (by kernel_rfl) (by kernel_rfl)) (by decide)
        dsimp only [nth] at h27
        replace hK := hk_val hK (by decide) (by rfl)
        clear hd
        simp only [lay, Act.put, List.setIfInBounds_toArray, List.set_cons_zero, List.set_cons_succ, h27] at hK ⊢
        go_simp
        first
          | (go_at_call 9; (with_reducible refine (may_any s A n c ops W (hO5.below hB) hs).mono ?_); rintro e w1 ⟨rfl, hb⟩; rw [HE.out]; exact hK.out _ _ rfl hb)
          | (go_at_call 10; (with_reducible refine (refmay_any s A n c ops W (hO5.below hB) hs).mono ?_); rintro e w1 ⟨rfl, hb⟩; rw [HE.out]; exact hK.out _ _ rfl hb)
          | (go_at_call 15; (with_reducible refine (sameentries_any A4 c4 A5 c5 M (entX s ops) W (her4.below hB) (her5.below hB) hM4).mono ?_); rintro e w1 ⟨rfl, hb⟩; exact hK.out _ _ rfl hb)
          | (go_at_call 11; (with_reducible refine (awake_any _).mono ?_); rintro e w1 ⟨rfl, hb⟩; exact hK.out _ _ rfl hb)
      refine OpsOK.cons ?_ ?_
      · intro u W K hB hd hK
        have h27 := fact_val (dep_of hd 27 (by kernel_rfl) (by kernel_rfl)) (by decide)
        dsimp only [nth] at h27
        have h28 := fact_val (dep_of hd 28 (by kernel_rfl) (by kernel_rfl)) (by decide)
        dsimp only [nth] at h28
        replace hK := hk_val hK (by decide) (by rfl)
        clear hd
        simp only [lay, Act.put, List.setIfInBounds_toArray, List.set_cons_zero, List.set_cons_succ, h27, h28] at hK ⊢
        go_simp
        exact hK.out _ _ rfl (Below.refl _ _)
      refine OpsOK.cons ?_ ?_
      · intro u W K hB hd hK
        have h28 := fact_val (dep_of hd 28 (by kernel_rfl) (by kernel_rfl)) (by decide)
        dsimp only [nth] at h28
        have h29 := fact_val (dep_of hd 29 (by kernel_rfl) (by kernel_rfl)) (by decide)
        dsimp only [nth] at h29
        replace hK := hk_val hK (by decide) (by rfl)
        clear hd
        simp only [lay, Act.put, List.setIfInBounds_toArray, List.set_cons_zero, List.set_cons_succ, h28, h29] at hK ⊢
        go_simp
        exact hK.out _ _ rfl (Below.refl _ _)
      exact OpsOK.nil
    intro u W hB hf
    have h0 := fact_val (hf 0 (by decide) (by decide)) (by decide)
    dsimp only [nth] at h0
    have h1 := fact_val (hf 1 (by decide) (by decide)) (by decide)
    dsimp only [nth] at h1
    have h2 := fact_val (hf 2 (by decide) (by decide)) (by decide)
    dsimp only [nth] at h2
    have h3 := fact_val (hf 3 (by decide) (by decide)) (by decide)
    dsimp only [nth] at h3
    have h4 := fact_val (hf 4 (by decide) (by decide)) (by decide)
    dsimp only [nth] at h4
    have h5 := fact_val (hf 5 (by decide) (by decide)) (by decide)
    dsimp only [nth] at h5
    have h6 := fact_val (hf 6 (by decide) (by decide)) (by decide)
    dsimp only [nth] at h6
    have h7 := fact_val (hf 7 (by decide) (by decide)) (by decide)
    dsimp only [nth] at h7
    have h8 := fact_val (hf 8 (by decide) (by decide)) (by decide)
    dsimp only [nth] at h8
    have h9 := fact_val (hf 9 (by decide) (by decide)) (by decide)
    dsimp only [nth] at h9
    have h10 := fact_val (hf 10 (by decide) (by decide)) (by decide)
    dsimp only [nth] at h10
    have h11 := fact_val (hf 11 (by decide) (by decide)) (by decide)
    dsimp only [nth] at h11
    have h12 := fact_val (hf 12 (by decide) (by decide)) (by decide)
    dsimp only [nth] at h12
    have h13 := fact_val (hf 13 (by decide) (by decide)) (by decide)
    dsimp only [nth] at h13
    have h14 := fact_val (hf 14 (by decide) (by decide)) (by decide)
    dsimp only [nth] at h14
    have h15 := fact_val (hf 15 (by decide) (by decide)) (by decide)
    dsimp only [nth] at h15
    have h16 := fact_val (hf 16 (by decide) (by decide)) (by decide)
    dsimp only [nth] at h16
    have h17 := fact_val (hf 17 (by decide) (by decide)) (by decide)
    dsimp only [nth] at h17
    have h18 := fact_val (hf 18 (by decide) (by decide)) (by decide)
    dsimp only [nth] at h18
    have h19 := fact_val (hf 19 (by decide) (by decide)) (by decide)
    dsimp only [nth] at h19
    have h20 := fact_val (hf 20 (by decide) (by decide)) (by decide)
    dsimp only [nth] at h20
    have h21 := fact_val (hf 21 (by decide) (by decide)) (by decide)
    dsimp only [nth] at h21
    have h22 := fact_val (hf 22 (by decide) (by decide)) (by decide)
    dsimp only [nth] at h22
    have h23 := fact_val (hf 23 (by decide) (by decide)) (by decide)
    dsimp only [nth] at h23
    have h24 := fact_val (hf 24 (by decide) (by decide)) (by decide)
    dsimp only [nth] at h24
    have h25 := fact_val (hf 25 (by decide) (by decide)) (by decide)
    dsimp only [nth] at h25
    have h26 := fact_val (hf 26 (by decide) (by decide)) (by decide)
    dsimp only [nth] at h26
    have h27 := fact_val (hf 27 (by decide) (by decide)) (by decide)
    dsimp only [nth] at h27
    have h28 := fact_val (hf 28 (by decide) (by decide)) (by decide)
    dsimp only [nth] at h28
    have h29 := fact_val (hf 29 (by decide) (by decide)) (by decide)
    dsimp only [nth] at h29
    have h30 := fact_val (hf 30 (by decide) (by decide)) (by decide)
    dsimp only [nth] at h30
    clear hf
    simp only [lay, h0, h1, h2, h3, h4, h5, h6, h7, h8, h9, h10, h11, h12, h13, h14, h15, h16, h17, h18, h19, h20, h21, h22, h23, h24, h25, h26, h27, h28, h29, h30]
    clear h0 h1 h2 h3 h4 h5 h6 h7 h8 h9 h10 h11 h12 h13 h14 h15 h16 h17 h18 h19 h20 h21 h22 h23 h24 h25 h26 h27 h28 h29 h30
    go_wp2
    go_ret
    exact ⟨rfl, below_then hb5 hB⟩
end Go.Proofs.Ytdhmonomhifkkaa
