/- Layer 14: the reference's bytes of an edit: the walk. -/
import Derived.Test.YthiolcccgiibhaaEdE
namespace Go.Proofs.Ythiolcccgiibhaa
open Go.RowKit
set_option linter.unusedVariables false
set_option linter.unusedSimpArgs false

theorem accH4 (a b c d : Nat) : ((uvar a ++ uvar b) ++ uvar c) ++ uvar d = accH (a : Int) (b : Int) (c : Int) (d : Int) 4 := by simp [accH, pick4, elt]
theorem acc33 (L : List UInt8) (t : TabR) {a b c : Nat} (ha : tNum t = a) (hb : tLev t = b) (hc : tSize t = c) : ((L ++ uvar a) ++ uvar b) ++ uvar c = acc3 L t 3 := by simp [acc3, pick3, elt, ha, hb, hc]
set_option maxHeartbeats 16000000 in
set_option maxRecDepth 100000 in
theorem refenc_any (l x s : Int) (Aa : Option Addr) (na ca : Nat) (ts : List TabR) (Ar : Option Addr) (nr cr : Nat) (zs : List Int) (w : World) (hT : RTabs w Aa na ts) (hca : na ≤ ca) (hZ : RN .i64 w Ar nr zs) (hcr : nr ≤ cr) :
    Calls Try.prog 12 #[.agg #[.int .i64 l, .int .i64 x, .int .i64 s, .slice Aa na ca, .slice Ar nr cr]] w fun e w' => ∃ v, e = .returned (.tuple #[v, .int .i64 (if mayEd l x s ts zs = true then 0 else 1)]) ∧ OB w' w.heap.size v (encE l x s ts zs) ∧ Below w.heap.size w w' := by
  have hla := hT.1
  have hlr := hZ.1
  have HT := hid hT
  have HZ := hid hZ
  have HT1 := hid (hT.below (below_alloc' (Below.refl _ _) (.cells #[.int .i64 l, .int .i64 x, .int .i64 s, .slice Aa na ca, .slice Ar nr cr] 30)))
  have HZ1 := hid (hZ.below (below_alloc' (Below.refl _ _) (.cells #[.int .i64 l, .int .i64 x, .int .i64 s, .slice Aa na ca, .slice Ar nr cr] 30)))
  have HJ := hid (show MayJ w (w.alloc (.cells #[.int .i64 l, .int .i64 x, .int .i64 s, .slice Aa na ca, .slice Ar nr cr] 30)) l x s Aa na ca Ar nr cr from ⟨heap_alloc_new w _, below_alloc' (Below.refl _ _) _⟩)
  clear hT hZ
  cases hM : mayEd l x s ts zs with
  | false =>
    have HM := hid hM
    have HX : Hid (encE l x s ts zs = []) := by unfold Hid encE; rw [hM]; rfl
    clear hM hla hlr
    go_enter Try.func12, Try.ntmps12
    go_wp2_with (go_at_call 14; (with_reducible refine (refmayedit_any l x s Aa na ca ts Ar nr cr zs _ HT1.out hca HZ1.out hcr).mono ?_); rintro e w1 ⟨rfl, hb1⟩; rw [HM.out])
    go_ret2
    exact ⟨_, rfl, by rw [HX.out]; exact OB.nil _ _, (HJ.out.below hb1).2⟩
  | true =>
    obtain ⟨d1, d2, d3, d4, d5, d6, d7⟩ := mayEd_true hM
    obtain ⟨gl, rfl⟩ : ∃ g : Nat, l = g := ⟨l.toNat, by omega⟩
    obtain ⟨gx, rfl⟩ : ∃ g : Nat, x = g := ⟨x.toNat, by omega⟩
    obtain ⟨gs, rfl⟩ : ∃ g : Nat, s = g := ⟨s.toNat, by omega⟩
    have HM := hid hM
    have HX : Hid (encE gl gx gs ts zs = accR (accA gl gx gs ts na) zs nr) := by unfold Hid encE; rw [hM, hla, hlr]; rfl
    have hm6 := addOK_at _ d6
    have HLA := hid (accA_len (l := gl) (x := gx) (s := gs) hm6)
    have hr7 := remOK_at _ d7
    rw [hla] at d4 hm6
    rw [hlr] at d5 hr7
    have H6 := hid hm6
    have H7 := hid hr7
    have HAN := hid hla
    have HRN := hid hlr
    have b1 : gl < 18446744073709551616 := by omega
    have b2 : gx < 18446744073709551616 := by omega
    have b3 : gs < 18446744073709551616 := by omega
    have b4 : na < 18446744073709551616 := by omega
    have u1 := uvar_len gl
    have u2 := uvar_len gx
    have u3 := uvar_len gs
    have HH0 : Hid (((uvar gl ++ uvar gx) ++ uvar gs) ++ uvar na = accA gl gx gs ts 0) := by unfold Hid; rw [accA, accH4, HAN.out]
    clear hM d6 d7 hm6 hr7 hla hlr
    go_enter Try.func12, Try.ntmps12
    go_wp2_with (go_at_call 14; (with_reducible refine (refmayedit_any gl gx gs Aa na ca ts Ar nr cr zs _ HT1.out hca HZ1.out hcr).mono ?_); rintro e w1 ⟨rfl, hb1⟩; rw [HM.out]; have hJ1 := HJ.out.below hb1; have hbk := hJ1.1)
    apply wp_region_txt [none, none, none, none, some 17, none, none, none, none, none, none, none, some 0, some 1, some 2, some 3, some 4, some 5, some 6, some 7, some 8, some 9, some 10, some 11, some 12, some 13, some 14, some 15, some 16, none, none, none, none, none, none, none, none, none, none, none, none, none, none, none, none, none, none, none, none, none, none, none, none, none, none, none, none, none, none, none, none, none, none, none, none, none, none, none, none, none, none, none, none, none, none] [3, 7, 11, 16, 17] [(3, 7), (7, 11), (11, 16), (16, 17)] [_, _, _, undef, _, _, _, undef, _, _, _, undef, _, _, _, _, undef, undef] [[], [], [], _, [], [], [], _, [], [], [], _, [], [], [], [], _, _]
    case hm => rfl
    case hs => rfl
    case hst => kernel_rfl
    case hput => exact OpsOK.cons (fun _ _ => rfl) (OpsOK.cons (fun _ _ => rfl) (OpsOK.cons (fun _ _ => rfl) (OpsOK.cons (fun _ _ => rfl) (OpsOK.cons (fun _ _ => rfl) (OpsOK.cons (fun _ _ => rfl) (OpsOK.cons (fun _ _ => rfl) (OpsOK.cons (fun _ _ => rfl) (OpsOK.cons (fun _ _ => rfl) (OpsOK.cons (fun _ _ => rfl) (OpsOK.cons (fun _ _ => rfl) (OpsOK.cons (fun _ _ => rfl) (OpsOK.cons (fun _ _ => rfl) (OpsOK.cons (fun _ _ => rfl) (OpsOK.cons (fun _ _ => rfl) (OpsOK.cons (fun _ _ => rfl) (OpsOK.cons (fun _ _ => rfl) (OpsOK.cons (fun _ _ => rfl) (OpsOK.nil))))))))))))))))))
    case hops =>
      refine OpsOK.cons ?_ ?_
      · intro u W K hB hd hK
        replace hK := hk_val hK (by decide) (by rfl)
        clear hd
        simp only [lay, Act.put, List.setIfInBounds_toArray, List.set_cons_zero, List.set_cons_succ] at hK ⊢
        go_simp
        exact hK.out _ _ rfl (Below.refl _ _)
      refine OpsOK.cons ?_ ?_
      · intro u W K hB hd hK
        have h0 := fact_val (dep_of hd 0 (by kernel_rfl) (by kernel_rfl)) (by decide)
        dsimp only [nth] at h0
        replace hK := hk_val hK (by decide) (by rfl)
        clear hd
        simp only [lay, Act.put, List.setIfInBounds_toArray, List.set_cons_zero, List.set_cons_succ, h0] at hK ⊢
        have q0 := box_at (blk_below hB hbk) 0 (.int .i64 (gl : Int)) rfl
        go_simp
        exact hK.out _ _ rfl (Below.refl _ _)
      refine OpsOK.cons ?_ ?_
      · intro u W K hB hd hK
        have h1 := fact_val (dep_of hd 1 (by kernel_rfl) (by kernel_rfl)) (by decide)
        dsimp only [nth] at h1
        replace hK := hk_val hK (by decide) (by rfl)
        clear hd
        simp only [lay, Act.put, List.setIfInBounds_toArray, List.set_cons_zero, List.set_cons_succ, h1] at hK ⊢
        go_simp
        exact hK.out _ _ rfl (Below.refl _ _)
      refine OpsOK.cons ?_ ?_
      · intro u W K hB hd hK
        have h2 := fact_val (dep_of hd 2 (by kernel_rfl) (by kernel_rfl)) (by decide)
        dsimp only [nth] at h2
        replace hK := hk_row hB hK (by decide) (by rfl)
        clear hd
        simp only [lay, Act.put, List.setIfInBounds_toArray, List.set_cons_zero, List.set_cons_succ, h2] at hK ⊢
        try simp only [wrap_u64_nat gl b1] at hK ⊢
        go_simp
        first
          | (go_at_call 21; (with_reducible refine (refput_any (.slice none 0 0) W.heap.size [] gl W (OB.nil _ _) (Nat.le_refl _) b1 (by decide)).mono ?_); rintro e w2 ⟨v1, rfl, hown1, hgr1, hat1⟩; rw [List.nil_append] at hown1; exact hK.out _ _ hown1 (below_of_none hgr1))
          | (go_at_call 21; (with_reducible refine (refput_any _ _ (uvar gl) gx W h3 hB.size b2 (by omega)).mono ?_); rintro e w2 ⟨v1, rfl, hown1, hgr1, hat1⟩; exact hK.out _ _ hown1 hgr1 hat1)
          | (go_at_call 21; (with_reducible refine (refput_any _ _ (uvar gl ++ uvar gx) gs W h7 hB.size b3 (by simp only [List.length_append]; omega)).mono ?_); rintro e w2 ⟨v1, rfl, hown1, hgr1, hat1⟩; exact hK.out _ _ hown1 hgr1 hat1)
          | (go_at_call 21; (with_reducible refine (refput_any _ _ ((uvar gl ++ uvar gx) ++ uvar gs) na W h11 hB.size b4 (by simp only [List.length_append]; omega)).mono ?_); rintro e w2 ⟨v1, rfl, hown1, hgr1, hat1⟩; exact hK.out _ _ hown1 hgr1 hat1)
      refine OpsOK.cons ?_ ?_
      · intro u W K hB hd hK
        replace hK := hk_val hK (by decide) (by rfl)
        clear hd
        simp only [lay, Act.put, List.setIfInBounds_toArray, List.set_cons_zero, List.set_cons_succ] at hK ⊢
        go_simp
        exact hK.out _ _ rfl (Below.refl _ _)
      refine OpsOK.cons ?_ ?_
      · intro u W K hB hd hK
        have h4 := fact_val (dep_of hd 4 (by kernel_rfl) (by kernel_rfl)) (by decide)
        dsimp only [nth] at h4
        replace hK := hk_val hK (by decide) (by rfl)
        clear hd
        simp only [lay, Act.put, List.setIfInBounds_toArray, List.set_cons_zero, List.set_cons_succ, h4] at hK ⊢
        have q1 := box_at (blk_below hB hbk) 1 (.int .i64 (gx : Int)) rfl
        go_simp
        exact hK.out _ _ rfl (Below.refl _ _)
      refine OpsOK.cons ?_ ?_
      · intro u W K hB hd hK
        have h5 := fact_val (dep_of hd 5 (by kernel_rfl) (by kernel_rfl)) (by decide)
        dsimp only [nth] at h5
        replace hK := hk_val hK (by decide) (by rfl)
        clear hd
        simp only [lay, Act.put, List.setIfInBounds_toArray, List.set_cons_zero, List.set_cons_succ, h5] at hK ⊢
        go_simp
        exact hK.out _ _ rfl (Below.refl _ _)
      refine OpsOK.cons ?_ ?_
      · intro u W K hB hd hK
        have h3 := fact_row (dep_of hd 3 (by kernel_rfl) (by kernel_rfl)) (by decide)
        dsimp only [nth] at h3
        have h6 := fact_val (dep_of hd 6 (by kernel_rfl) (by kernel_rfl)) (by decide)
        dsimp only [nth] at h6
        replace hK := hk_par hK (by decide) 3 (by rfl)
        clear hd
        simp only [lay, Act.put, List.setIfInBounds_toArray, List.set_cons_zero, List.set_cons_succ, h6] at hK ⊢
        try simp only [wrap_u64_nat gx b2] at hK ⊢
        go_simp
        first
          | (go_at_call 21; (with_reducible refine (refput_any (.slice none 0 0) W.heap.size [] gl W (OB.nil _ _) (Nat.le_refl _) b1 (by decide)).mono ?_); rintro e w2 ⟨v1, rfl, hown1, hgr1, hat1⟩; rw [List.nil_append] at hown1; exact hK.out _ _ hown1 (below_of_none hgr1))
          | (go_at_call 21; (with_reducible refine (refput_any _ _ (uvar gl) gx W h3 hB.size b2 (by omega)).mono ?_); rintro e w2 ⟨v1, rfl, hown1, hgr1, hat1⟩; exact hK.out _ _ hown1 hgr1 hat1)
          | (go_at_call 21; (with_reducible refine (refput_any _ _ (uvar gl ++ uvar gx) gs W h7 hB.size b3 (by simp only [List.length_append]; omega)).mono ?_); rintro e w2 ⟨v1, rfl, hown1, hgr1, hat1⟩; exact hK.out _ _ hown1 hgr1 hat1)
          | (go_at_call 21; (with_reducible refine (refput_any _ _ ((uvar gl ++ uvar gx) ++ uvar gs) na W h11 hB.size b4 (by simp only [List.length_append]; omega)).mono ?_); rintro e w2 ⟨v1, rfl, hown1, hgr1, hat1⟩; exact hK.out _ _ hown1 hgr1 hat1)
      refine OpsOK.cons ?_ ?_
      · intro u W K hB hd hK
        replace hK := hk_val hK (by decide) (by rfl)
        clear hd
        simp only [lay, Act.put, List.setIfInBounds_toArray, List.set_cons_zero, List.set_cons_succ] at hK ⊢
        go_simp
        exact hK.out _ _ rfl (Below.refl _ _)
      refine OpsOK.cons ?_ ?_
      · intro u W K hB hd hK
        have h8 := fact_val (dep_of hd 8 (by kernel_rfl) (by kernel_rfl)) (by decide)
        dsimp only [nth] at h8
        replace hK := hk_val hK (by decide) (by rfl)
        clear hd
        simp only [lay, Act.put, List.setIfInBounds_toArray, List.set_cons_zero, List.set_cons_succ, h8] at hK ⊢
        have q2 := box_at (blk_below hB hbk) 2 (.int .i64 (gs : Int)) rfl
        go_simp
        exact hK.out _ _ rfl (Below.refl _ _)
      refine OpsOK.cons ?_ ?_
      · intro u W K hB hd hK
        have h9 := fact_val (dep_of hd 9 (by kernel_rfl) (by kernel_rfl)) (by decide)
        dsimp only [nth] at h9
        replace hK := hk_val hK (by decide) (by rfl)
        clear hd
        simp only [lay, Act.put, List.setIfInBounds_toArray, List.set_cons_zero, List.set_cons_succ, h9] at hK ⊢
        go_simp
        exact hK.out _ _ rfl (Below.refl _ _)
      refine OpsOK.cons ?_ ?_
      · intro u W K hB hd hK
        have h7 := fact_row (dep_of hd 7 (by kernel_rfl) (by kernel_rfl)) (by decide)
        dsimp only [nth] at h7
        have h10 := fact_val (dep_of hd 10 (by kernel_rfl) (by kernel_rfl)) (by decide)
        dsimp only [nth] at h10
        replace hK := hk_par hK (by decide) 7 (by rfl)
        clear hd
        simp only [lay, Act.put, List.setIfInBounds_toArray, List.set_cons_zero, List.set_cons_succ, h10] at hK ⊢
        try simp only [wrap_u64_nat gs b3] at hK ⊢
        go_simp
        first
          | (go_at_call 21; (with_reducible refine (refput_any (.slice none 0 0) W.heap.size [] gl W (OB.nil _ _) (Nat.le_refl _) b1 (by decide)).mono ?_); rintro e w2 ⟨v1, rfl, hown1, hgr1, hat1⟩; rw [List.nil_append] at hown1; exact hK.out _ _ hown1 (below_of_none hgr1))
          | (go_at_call 21; (with_reducible refine (refput_any _ _ (uvar gl) gx W h3 hB.size b2 (by omega)).mono ?_); rintro e w2 ⟨v1, rfl, hown1, hgr1, hat1⟩; exact hK.out _ _ hown1 hgr1 hat1)
          | (go_at_call 21; (with_reducible refine (refput_any _ _ (uvar gl ++ uvar gx) gs W h7 hB.size b3 (by simp only [List.length_append]; omega)).mono ?_); rintro e w2 ⟨v1, rfl, hown1, hgr1, hat1⟩; exact hK.out _ _ hown1 hgr1 hat1)
          | (go_at_call 21; (with_reducible refine (refput_any _ _ ((uvar gl ++ uvar gx) ++ uvar gs) na W h11 hB.size b4 (by simp only [List.length_append]; omega)).mono ?_); rintro e w2 ⟨v1, rfl, hown1, hgr1, hat1⟩; exact hK.out _ _ hown1 hgr1 hat1)
      refine OpsOK.cons ?_ ?_
      · intro u W K hB hd hK
        replace hK := hk_val hK (by decide) (by rfl)
        clear hd
        simp only [lay, Act.put, List.setIfInBounds_toArray, List.set_cons_zero, List.set_cons_succ] at hK ⊢
        go_simp
        exact hK.out _ _ rfl (Below.refl _ _)
      refine OpsOK.cons ?_ ?_
      · intro u W K hB hd hK
        have h12 := fact_val (dep_of hd 12 (by kernel_rfl) (by kernel_rfl)) (by decide)
        dsimp only [nth] at h12
        replace hK := hk_val hK (by decide) (by rfl)
        clear hd
        simp only [lay, Act.put, List.setIfInBounds_toArray, List.set_cons_zero, List.set_cons_succ, h12] at hK ⊢
        have q3 := box_at (blk_below hB hbk) 3 (.slice Aa na ca) rfl
        go_simp
        exact hK.out _ _ rfl (Below.refl _ _)
      refine OpsOK.cons ?_ ?_
      · intro u W K hB hd hK
        have h13 := fact_val (dep_of hd 13 (by kernel_rfl) (by kernel_rfl)) (by decide)
        dsimp only [nth] at h13
        replace hK := hk_val hK (by decide) (by rfl)
        clear hd
        simp only [lay, Act.put, List.setIfInBounds_toArray, List.set_cons_zero, List.set_cons_succ, h13] at hK ⊢
        go_simp
        exact hK.out _ _ rfl (Below.refl _ _)
      refine OpsOK.cons ?_ ?_
      · intro u W K hB hd hK
        have h14 := fact_val (dep_of hd 14 (by kernel_rfl) (by kernel_rfl)) (by decide)
        dsimp only [nth] at h14
        replace hK := hk_val hK (by decide) (by rfl)
        clear hd
        simp only [lay, Act.put, List.setIfInBounds_toArray, List.set_cons_zero, List.set_cons_succ, h14] at hK ⊢
        go_simp
        exact hK.out _ _ rfl (Below.refl _ _)
      refine OpsOK.cons ?_ ?_
      · intro u W K hB hd hK
        have h11 := fact_row (dep_of hd 11 (by kernel_rfl) (by kernel_rfl)) (by decide)
        dsimp only [nth] at h11
        have h15 := fact_val (dep_of hd 15 (by kernel_rfl) (by kernel_rfl)) (by decide)
        dsimp only [nth] at h15
        replace hK := hk_par hK (by decide) 11 (by rfl)
        clear hd
        simp only [lay, Act.put, List.setIfInBounds_toArray, List.set_cons_zero, List.set_cons_succ, h15] at hK ⊢
        try simp only [wrap_u64_nat na b4] at hK ⊢
        go_simp
        first
          | (go_at_call 21; (with_reducible refine (refput_any (.slice none 0 0) W.heap.size [] gl W (OB.nil _ _) (Nat.le_refl _) b1 (by decide)).mono ?_); rintro e w2 ⟨v1, rfl, hown1, hgr1, hat1⟩; rw [List.nil_append] at hown1; exact hK.out _ _ hown1 (below_of_none hgr1))
          | (go_at_call 21; (with_reducible refine (refput_any _ _ (uvar gl) gx W h3 hB.size b2 (by omega)).mono ?_); rintro e w2 ⟨v1, rfl, hown1, hgr1, hat1⟩; exact hK.out _ _ hown1 hgr1 hat1)
          | (go_at_call 21; (with_reducible refine (refput_any _ _ (uvar gl ++ uvar gx) gs W h7 hB.size b3 (by simp only [List.length_append]; omega)).mono ?_); rintro e w2 ⟨v1, rfl, hown1, hgr1, hat1⟩; exact hK.out _ _ hown1 hgr1 hat1)
          | (go_at_call 21; (with_reducible refine (refput_any _ _ ((uvar gl ++ uvar gx) ++ uvar gs) na W h11 hB.size b4 (by simp only [List.length_append]; omega)).mono ?_); rintro e w2 ⟨v1, rfl, hown1, hgr1, hat1⟩; exact hK.out _ _ hown1 hgr1 hat1)
      refine OpsOK.cons ?_ ?_
      · intro u W K hB hd hK
        have h16 := fact_row (dep_of hd 16 (by kernel_rfl) (by kernel_rfl)) (by decide)
        dsimp only [nth] at h16
        replace hK := hk_par hK (by decide) 16 (by rfl)
        clear hd
        simp only [lay, Act.put, List.setIfInBounds_toArray, List.set_cons_zero, List.set_cons_succ] at hK ⊢
        go_simp
        exact hK.out _ _ h16 (grown_refl _ _) (AtRow.refl _ _)
      exact OpsOK.nil
    intro u W hB hf
    have h0 := fact_val (hf 0 (by decide) (by decide)) (by decide)
    dsimp only [nth] at h0
    have h1 := fact_val (hf 1 (by decide) (by decide)) (by decide)
    dsimp only [nth] at h1
    have h2 := fact_val (hf 2 (by decide) (by decide)) (by decide)
    dsimp only [nth] at h2
    have h4 := fact_val (hf 4 (by decide) (by decide)) (by decide)
    dsimp only [nth] at h4
    have h5 := fact_val (hf 5 (by decide) (by decide)) (by decide)
    dsimp only [nth] at h5
    have h6 := fact_val (hf 6 (by decide) (by decide)) (by decide)
    dsimp only [nth] at h6
    have h8 := fact_val (hf 8 (by decide) (by decide)) (by decide)
    dsimp only [nth] at h8
    have h9 := fact_val (hf 9 (by decide) (by decide)) (by decide)
    dsimp only [nth] at h9
    have h10 := fact_val (hf 10 (by decide) (by decide)) (by decide)
    dsimp only [nth] at h10
    have h12 := fact_val (hf 12 (by decide) (by decide)) (by decide)
    dsimp only [nth] at h12
    have h13 := fact_val (hf 13 (by decide) (by decide)) (by decide)
    dsimp only [nth] at h13
    have h14 := fact_val (hf 14 (by decide) (by decide)) (by decide)
    dsimp only [nth] at h14
    have h15 := fact_val (hf 15 (by decide) (by decide)) (by decide)
    dsimp only [nth] at h15
    have h17 := fact_row (hf 17 (by decide) (by decide)) (by decide)
    dsimp only [nth] at h17
    clear hf
    simp only [lay, h0, h1, h2, h4, h5, h6, h8, h9, h10, h12, h13, h14, h15]
    clear h0 h1 h2 h4 h5 h6 h8 h9 h10 h12 h13 h14 h15
    have hJ2 := hJ1.below hB
    have hown3 := OB.mono h17 hJ1.2.size
    rw [HH0.out] at hown3
    have hq4 := box_at hJ2.1 3 (.slice Aa na ca) rfl
    generalize u 17 = v17 at *
    go_wp2
    go_loopw [4, 32] (fun v i wr => ∃ k : Nat, k ≤ na ∧ i = .int .i64 k ∧ OB wr w.heap.size v (accA gl gx gs ts k) ∧ MayJ w wr gl gx gs Aa na ca Ar nr cr) (fun v i wr => na - (intOf i).toNat)
    case atStart => exact ⟨0, Nat.zero_le _, rfl, hown3, hJ2⟩
    case round =>
      obtain ⟨k, hk, rfl, hown, hJ⟩ := hrel
      by_cases hlt : k < na
      · obtain ⟨ad, rfl, hcells⟩ := HT.out.at_ hlt
        obtain ⟨Al, nl, cl, Am, nm, cm, hc0, hc1, hc2, hc3, hc4, hrl, hcl, hrm, hcm, hwf, _, _⟩ := hcells
        have hc0 := below_cell hJ.2 hc0
        have hc1 := below_cell hJ.2 hc1
        have hc2 := below_cell hJ.2 hc2
        have hc3 := below_cell hJ.2 hc3
        have hc4 := below_cell hJ.2 hc4
        have hmt := H6.out k hlt
        have hlen := HLA.out k (by rw [HAN.out]; omega)
        have hnx : accA gl gx gs ts (k + 1) = tabS (elt noTab ts k) (accA gl gx gs ts k) := rfl
        have HNX := hid hnx
        clear hnx
        generalize elt noTab ts k = t at *
        generalize accA gl gx gs ts k = L at *
        obtain ⟨t1, t2, t3, t4, t5, t6, _, t7, _, t8, _⟩ := mayT_true hmt
        obtain ⟨n1, hn1⟩ : ∃ g : Nat, tNum t = g := ⟨(tNum t).toNat, by omega⟩
        obtain ⟨n2, hn2⟩ : ∃ g : Nat, tLev t = g := ⟨(tLev t).toNat, by omega⟩
        obtain ⟨n3, hn3⟩ : ∃ g : Nat, tSize t = g := ⟨(tSize t).toNat, by omega⟩
        obtain ⟨least, hle⟩ : ∃ a, tLeast t = a := ⟨_, rfl⟩
        obtain ⟨most, hmo⟩ : ∃ a, tMost t = a := ⟨_, rfl⟩
        have HHT := hid (show tabS t L = ((((L ++ uvar n1) ++ uvar n2) ++ uvar n3) ++ uvar least.length ++ least) ++ uvar most.length ++ most by unfold tabS; rw [← acc33 L t hn1 hn2 hn3, hle, hmo])
        rw [hn1] at hc0 t1 t2
        rw [hn2] at hc1 t3 t4
        rw [hn3] at hc2 t5 t6
        rw [hle] at hrl t7
        rw [hmo] at hrm t8
        have e1 : n1 < 18446744073709551616 := by omega
        have e2 : n2 < 18446744073709551616 := by omega
        have e3 : n3 < 18446744073709551616 := by omega
        have v1 := uvar_len n1
        have v2 := uvar_len n2
        have v3 := uvar_len n3
        have v4 := uvar_len least.length
        have hnl := hrl.1
        have hnm := hrm.1
        have HRL := hid hrl
        have HRM := hid hrm
        have hbt : (wr.alloc (.cells #[.int .i64 (n1 : Int), .int .i64 (n2 : Int), .int .i64 (n3 : Int), .slice Al nl cl, .slice Am nm cm] 24)).heap[wr.heap.size]? = _ := heap_alloc_new wr (.cells #[.int .i64 (n1 : Int), .int .i64 (n2 : Int), .int .i64 (n3 : Int), .slice Al nl cl, .slice Am nm cm] 24)
        have hownW := hown.alloc (.cells #[.int .i64 (n1 : Int), .int .i64 (n2 : Int), .int .i64 (n3 : Int), .slice Al nl cl, .slice Am nm cm] 24)
        have hJW := hJ.below (below_alloc' (Below.refl _ _) (.cells #[.int .i64 (n1 : Int), .int .i64 (n2 : Int), .int .i64 (n3 : Int), .slice Al nl cl, .slice Am nm cm] 24))
        have hBW0 : Below w.heap.size w (wr.alloc (.cells #[.int .i64 (n1 : Int), .int .i64 (n2 : Int), .int .i64 (n3 : Int), .slice Al nl cl, .slice Am nm cm] 24)) := hJW.2
        have hbW0 := hBW0.size
        have hneW := OB.ne_blk hownW hbt (by decide)
        have hneJ := OB.ne_blk hownW hJW.1 (by decide)
        have hbs := OB.base_ hownW
        clear hmt hn1 hn2 hn3 hle hmo t1 t2 t3 t4 t5 t6 hrl hrm hown hJ
        go_wp2
        generalize wr.alloc (.cells #[.int .i64 (n1 : Int), .int .i64 (n2 : Int), .int .i64 (n3 : Int), .slice Al nl cl, .slice Am nm cm] 24) = W0 at *
        generalize wr.heap.size = b at *
        apply wp_region_txtB (w.heap.size) 0 (u4.ownBlock) [none, none, none, none, some 19, none, none, none, none, none, none, none, none, none, none, none, none, none, none, none, none, none, none, none, none, none, none, none, none, none, none, none, none, none, none, none, some 0, some 1, some 2, some 3, some 4, some 5, some 6, some 7, some 8, some 9, some 10, some 11, some 12, some 13, some 14, some 15, some 16, some 17, some 18, none, none, none, none, none, none, none, none, none, none, none, none, none, none, none, none, none, none, none, none] [0, 4, 8, 12, 15, 18, 19] [(0, 4), (4, 8), (8, 12), (12, 15), (15, 18), (18, 19)] [undef, _, _, _, undef, _, _, _, undef, _, _, _, undef, _, _, undef, _, _, undef, undef] [_, [], [], [], _, [], [], [], _, [], [], [], _, [], [], _, [], [], _, _]
        case hm => rfl
        case hs => rfl
        case hst => kernel_rfl
        case hrow0 => exact fun k hk => (World.ownsRow.lt hownW k hk).2
        case hput => exact OpsOK.cons (fun _ _ => rfl) (OpsOK.cons (fun _ _ => rfl) (OpsOK.cons (fun _ _ => rfl) (OpsOK.cons (fun _ _ => rfl) (OpsOK.cons (fun _ _ => rfl) (OpsOK.cons (fun _ _ => rfl) (OpsOK.cons (fun _ _ => rfl) (OpsOK.cons (fun _ _ => rfl) (OpsOK.cons (fun _ _ => rfl) (OpsOK.cons (fun _ _ => rfl) (OpsOK.cons (fun _ _ => rfl) (OpsOK.cons (fun _ _ => rfl) (OpsOK.cons (fun _ _ => rfl) (OpsOK.cons (fun _ _ => rfl) (OpsOK.cons (fun _ _ => rfl) (OpsOK.cons (fun _ _ => rfl) (OpsOK.cons (fun _ _ => rfl) (OpsOK.cons (fun _ _ => rfl) (OpsOK.cons (fun _ _ => rfl) (OpsOK.cons (fun _ _ => rfl) (OpsOK.nil))))))))))))))))))))
        case hops =>
          refine OpsOK.cons ?_ ?_
          · intro u W K hB hz0 hz1 hd hK
            have hbW := Nat.le_trans hbW0 hB.size
            replace hK := hk_oldB hK rfl (by decide) (by rfl)
            clear hd
            have hw : u 19 = (u4) := (was_of hz1 19 (by kernel_rfl)).trans rfl
            clear hz1
            simp only [lay, Act.put, List.setIfInBounds_toArray, List.set_cons_zero, List.set_cons_succ, hw] at hK ⊢
            go_simp
            exact hK.out _ (OB.below hownW (hz0 rfl)) (fun k hk => hk.symm)
          refine OpsOK.cons ?_ ?_
          · intro u W K hB hz0 hz1 hd hK
            have hbW := Nat.le_trans hbW0 hB.size
            replace hK := hk_valB hK (by decide) (by rfl)
            clear hd
            clear hz1
            simp only [lay, Act.put, List.setIfInBounds_toArray, List.set_cons_zero, List.set_cons_succ] at hK ⊢
            go_simp
            exact hK.out _ _ rfl (Below.refl _ _)
          refine OpsOK.cons ?_ ?_
          · intro u W K hB hz0 hz1 hd hK
            have hbW := Nat.le_trans hbW0 hB.size
            have h1 := fact_valB (dep_of hd 1 (by kernel_rfl) (by kernel_rfl)) (by decide)
            dsimp only [nth] at h1
            replace hK := hk_valB hK (by decide) (by rfl)
            clear hd
            clear hz1
            simp only [lay, Act.put, List.setIfInBounds_toArray, List.set_cons_zero, List.set_cons_succ, h1] at hK ⊢
            have q0 := box_at (blk_grown hB hbt hneW) 0 (.int .i64 (n1 : Int)) rfl
            go_simp
            exact hK.out _ _ rfl (Below.refl _ _)
          refine OpsOK.cons ?_ ?_
          · intro u W K hB hz0 hz1 hd hK
            have hbW := Nat.le_trans hbW0 hB.size
            have h2 := fact_valB (dep_of hd 2 (by kernel_rfl) (by kernel_rfl)) (by decide)
            dsimp only [nth] at h2
            replace hK := hk_valB hK (by decide) (by rfl)
            clear hd
            clear hz1
            simp only [lay, Act.put, List.setIfInBounds_toArray, List.set_cons_zero, List.set_cons_succ, h2] at hK ⊢
            go_simp
            exact hK.out _ _ rfl (Below.refl _ _)
          refine OpsOK.cons ?_ ?_
          · intro u W K hB hz0 hz1 hd hK
            have hbW := Nat.le_trans hbW0 hB.size
            have h0 := fact_rowB (dep_of hd 0 (by kernel_rfl) (by kernel_rfl)) (by decide)
            dsimp only [nth] at h0
            have h3 := fact_valB (dep_of hd 3 (by kernel_rfl) (by kernel_rfl)) (by decide)
            dsimp only [nth] at h3
            replace hK := hk_parB hK (by decide) 0 (by rfl)
            clear hd
            clear hz1
            simp only [lay, Act.put, List.setIfInBounds_toArray, List.set_cons_zero, List.set_cons_succ, h3] at hK ⊢
            try simp only [wrap_u64_nat n1 e1] at hK ⊢
            go_simp
            first
              | (go_at_call 21; (with_reducible refine (refput_any _ w.heap.size L n1 W h0 hbW e1 (by omega)).mono ?_); rintro e w2 ⟨v1, rfl, hown1, hgr1, hat1⟩; exact hK.out _ _ hown1 hgr1 hat1)
              | (go_at_call 21; (with_reducible refine (refput_any _ w.heap.size (L ++ uvar n1) n2 W h4 hbW e2 (by simp only [List.length_append]; omega)).mono ?_); rintro e w2 ⟨v1, rfl, hown1, hgr1, hat1⟩; exact hK.out _ _ hown1 hgr1 hat1)
              | (go_at_call 21; (with_reducible refine (refput_any _ w.heap.size ((L ++ uvar n1) ++ uvar n2) n3 W h8 hbW e3 (by simp only [List.length_append]; omega)).mono ?_); rintro e w2 ⟨v1, rfl, hown1, hgr1, hat1⟩; exact hK.out _ _ hown1 hgr1 hat1)
              | (go_at_call 22; (with_reducible refine (refputbytes_any _ w.heap.size (((L ++ uvar n1) ++ uvar n2) ++ uvar n3) Al nl cl least W h12 hbW (HRL.out.below (hBW0.grown hB hbW0 hbs)) (own_key h12 HRL.out) (by simp only [List.length_append]; omega)).mono ?_); rintro e w1 ⟨v1, rfl, hown1, hgr1, hat1⟩; exact hK.out _ _ hown1 hgr1 hat1)
              | (go_at_call 22; (with_reducible refine (refputbytes_any _ w.heap.size ((((L ++ uvar n1) ++ uvar n2) ++ uvar n3) ++ uvar least.length ++ least) Am nm cm most W h15 hbW (HRM.out.below (hBW0.grown hB hbW0 hbs)) (own_key h15 HRM.out) (by simp only [List.length_append]; omega)).mono ?_); rintro e w1 ⟨v1, rfl, hown1, hgr1, hat1⟩; exact hK.out _ _ hown1 hgr1 hat1)
          refine OpsOK.cons ?_ ?_
          · intro u W K hB hz0 hz1 hd hK
            have hbW := Nat.le_trans hbW0 hB.size
            replace hK := hk_valB hK (by decide) (by rfl)
            clear hd
            clear hz1
            simp only [lay, Act.put, List.setIfInBounds_toArray, List.set_cons_zero, List.set_cons_succ] at hK ⊢
            go_simp
            exact hK.out _ _ rfl (Below.refl _ _)
          refine OpsOK.cons ?_ ?_
          · intro u W K hB hz0 hz1 hd hK
            have hbW := Nat.le_trans hbW0 hB.size
            have h5 := fact_valB (dep_of hd 5 (by kernel_rfl) (by kernel_rfl)) (by decide)
            dsimp only [nth] at h5
            replace hK := hk_valB hK (by decide) (by rfl)
            clear hd
            clear hz1
            simp only [lay, Act.put, List.setIfInBounds_toArray, List.set_cons_zero, List.set_cons_succ, h5] at hK ⊢
            have q1 := box_at (blk_grown hB hbt hneW) 1 (.int .i64 (n2 : Int)) rfl
            go_simp
            exact hK.out _ _ rfl (Below.refl _ _)
          refine OpsOK.cons ?_ ?_
          · intro u W K hB hz0 hz1 hd hK
            have hbW := Nat.le_trans hbW0 hB.size
            have h6 := fact_valB (dep_of hd 6 (by kernel_rfl) (by kernel_rfl)) (by decide)
            dsimp only [nth] at h6
            replace hK := hk_valB hK (by decide) (by rfl)
            clear hd
            clear hz1
            simp only [lay, Act.put, List.setIfInBounds_toArray, List.set_cons_zero, List.set_cons_succ, h6] at hK ⊢
            go_simp
            exact hK.out _ _ rfl (Below.refl _ _)
          refine OpsOK.cons ?_ ?_
          · intro u W K hB hz0 hz1 hd hK
            have hbW := Nat.le_trans hbW0 hB.size
            have h4 := fact_rowB (dep_of hd 4 (by kernel_rfl) (by kernel_rfl)) (by decide)
            dsimp only [nth] at h4
            have h7 := fact_valB (dep_of hd 7 (by kernel_rfl) (by kernel_rfl)) (by decide)
            dsimp only [nth] at h7
            replace hK := hk_parB hK (by decide) 4 (by rfl)
            clear hd
            clear hz1
            simp only [lay, Act.put, List.setIfInBounds_toArray, List.set_cons_zero, List.set_cons_succ, h7] at hK ⊢
            try simp only [wrap_u64_nat n2 e2] at hK ⊢
            go_simp
            first
              | (go_at_call 21; (with_reducible refine (refput_any _ w.heap.size L n1 W h0 hbW e1 (by omega)).mono ?_); rintro e w2 ⟨v1, rfl, hown1, hgr1, hat1⟩; exact hK.out _ _ hown1 hgr1 hat1)
              | (go_at_call 21; (with_reducible refine (refput_any _ w.heap.size (L ++ uvar n1) n2 W h4 hbW e2 (by simp only [List.length_append]; omega)).mono ?_); rintro e w2 ⟨v1, rfl, hown1, hgr1, hat1⟩; exact hK.out _ _ hown1 hgr1 hat1)
              | (go_at_call 21; (with_reducible refine (refput_any _ w.heap.size ((L ++ uvar n1) ++ uvar n2) n3 W h8 hbW e3 (by simp only [List.length_append]; omega)).mono ?_); rintro e w2 ⟨v1, rfl, hown1, hgr1, hat1⟩; exact hK.out _ _ hown1 hgr1 hat1)
              | (go_at_call 22; (with_reducible refine (refputbytes_any _ w.heap.size (((L ++ uvar n1) ++ uvar n2) ++ uvar n3) Al nl cl least W h12 hbW (HRL.out.below (hBW0.grown hB hbW0 hbs)) (own_key h12 HRL.out) (by simp only [List.length_append]; omega)).mono ?_); rintro e w1 ⟨v1, rfl, hown1, hgr1, hat1⟩; exact hK.out _ _ hown1 hgr1 hat1)
              | (go_at_call 22; (with_reducible refine (refputbytes_any _ w.heap.size ((((L ++ uvar n1) ++ uvar n2) ++ uvar n3) ++ uvar least.length ++ least) Am nm cm most W h15 hbW (HRM.out.below (hBW0.grown hB hbW0 hbs)) (own_key h15 HRM.out) (by simp only [List.length_append]; omega)).mono ?_); rintro e w1 ⟨v1, rfl, hown1, hgr1, hat1⟩; exact hK.out _ _ hown1 hgr1 hat1)
          refine OpsOK.cons ?_ ?_
          · intro u W K hB hz0 hz1 hd hK
            have hbW := Nat.le_trans hbW0 hB.size
            replace hK := hk_valB hK (by decide) (by rfl)
            clear hd
            clear hz1
            simp only [lay, Act.put, List.setIfInBounds_toArray, List.set_cons_zero, List.set_cons_succ] at hK ⊢
            go_simp
            exact hK.out _ _ rfl (Below.refl _ _)
          refine OpsOK.cons ?_ ?_
          · intro u W K hB hz0 hz1 hd hK
            have hbW := Nat.le_trans hbW0 hB.size
            have h9 := fact_valB (dep_of hd 9 (by kernel_rfl) (by kernel_rfl)) (by decide)
            dsimp only [nth] at h9
            replace hK := hk_valB hK (by decide) (by rfl)
            clear hd
            clear hz1
            simp only [lay, Act.put, List.setIfInBounds_toArray, List.set_cons_zero, List.set_cons_succ, h9] at hK ⊢
            have q2 := box_at (blk_grown hB hbt hneW) 2 (.int .i64 (n3 : Int)) rfl
            go_simp
            exact hK.out _ _ rfl (Below.refl _ _)
          refine OpsOK.cons ?_ ?_
          · intro u W K hB hz0 hz1 hd hK
            have hbW := Nat.le_trans hbW0 hB.size
            have h10 := fact_valB (dep_of hd 10 (by kernel_rfl) (by kernel_rfl)) (by decide)
            dsimp only [nth] at h10
            replace hK := hk_valB hK (by decide) (by rfl)
            clear hd
            clear hz1
            simp only [lay, Act.put, List.setIfInBounds_toArray, List.set_cons_zero, List.set_cons_succ, h10] at hK ⊢
            go_simp
            exact hK.out _ _ rfl (Below.refl _ _)
          refine OpsOK.cons ?_ ?_
          · intro u W K hB hz0 hz1 hd hK
            have hbW := Nat.le_trans hbW0 hB.size
            have h8 := fact_rowB (dep_of hd 8 (by kernel_rfl) (by kernel_rfl)) (by decide)
            dsimp only [nth] at h8
            have h11 := fact_valB (dep_of hd 11 (by kernel_rfl) (by kernel_rfl)) (by decide)
            dsimp only [nth] at h11
            replace hK := hk_parB hK (by decide) 8 (by rfl)
            clear hd
            clear hz1
            simp only [lay, Act.put, List.setIfInBounds_toArray, List.set_cons_zero, List.set_cons_succ, h11] at hK ⊢
            try simp only [wrap_u64_nat n3 e3] at hK ⊢
            go_simp
            first
              | (go_at_call 21; (with_reducible refine (refput_any _ w.heap.size L n1 W h0 hbW e1 (by omega)).mono ?_); rintro e w2 ⟨v1, rfl, hown1, hgr1, hat1⟩; exact hK.out _ _ hown1 hgr1 hat1)
              | (go_at_call 21; (with_reducible refine (refput_any _ w.heap.size (L ++ uvar n1) n2 W h4 hbW e2 (by simp only [List.length_append]; omega)).mono ?_); rintro e w2 ⟨v1, rfl, hown1, hgr1, hat1⟩; exact hK.out _ _ hown1 hgr1 hat1)
              | (go_at_call 21; (with_reducible refine (refput_any _ w.heap.size ((L ++ uvar n1) ++ uvar n2) n3 W h8 hbW e3 (by simp only [List.length_append]; omega)).mono ?_); rintro e w2 ⟨v1, rfl, hown1, hgr1, hat1⟩; exact hK.out _ _ hown1 hgr1 hat1)
              | (go_at_call 22; (with_reducible refine (refputbytes_any _ w.heap.size (((L ++ uvar n1) ++ uvar n2) ++ uvar n3) Al nl cl least W h12 hbW (HRL.out.below (hBW0.grown hB hbW0 hbs)) (own_key h12 HRL.out) (by simp only [List.length_append]; omega)).mono ?_); rintro e w1 ⟨v1, rfl, hown1, hgr1, hat1⟩; exact hK.out _ _ hown1 hgr1 hat1)
              | (go_at_call 22; (with_reducible refine (refputbytes_any _ w.heap.size ((((L ++ uvar n1) ++ uvar n2) ++ uvar n3) ++ uvar least.length ++ least) Am nm cm most W h15 hbW (HRM.out.below (hBW0.grown hB hbW0 hbs)) (own_key h15 HRM.out) (by simp only [List.length_append]; omega)).mono ?_); rintro e w1 ⟨v1, rfl, hown1, hgr1, hat1⟩; exact hK.out _ _ hown1 hgr1 hat1)
          refine OpsOK.cons ?_ ?_
          · intro u W K hB hz0 hz1 hd hK
            have hbW := Nat.le_trans hbW0 hB.size
            replace hK := hk_valB hK (by decide) (by rfl)
            clear hd
            clear hz1
            simp only [lay, Act.put, List.setIfInBounds_toArray, List.set_cons_zero, List.set_cons_succ] at hK ⊢
            go_simp
            exact hK.out _ _ rfl (Below.refl _ _)
          refine OpsOK.cons ?_ ?_
          · intro u W K hB hz0 hz1 hd hK
            have hbW := Nat.le_trans hbW0 hB.size
            have h13 := fact_valB (dep_of hd 13 (by kernel_rfl) (by kernel_rfl)) (by decide)
            dsimp only [nth] at h13
            replace hK := hk_valB hK (by decide) (by rfl)
            clear hd
            clear hz1
            simp only [lay, Act.put, List.setIfInBounds_toArray, List.set_cons_zero, List.set_cons_succ, h13] at hK ⊢
            have q3 := box_at (blk_grown hB hbt hneW) 3 (.slice Al nl cl) rfl
            go_simp
            exact hK.out _ _ rfl (Below.refl _ _)
          refine OpsOK.cons ?_ ?_
          · intro u W K hB hz0 hz1 hd hK
            have hbW := Nat.le_trans hbW0 hB.size
            have h12 := fact_rowB (dep_of hd 12 (by kernel_rfl) (by kernel_rfl)) (by decide)
            dsimp only [nth] at h12
            have h14 := fact_valB (dep_of hd 14 (by kernel_rfl) (by kernel_rfl)) (by decide)
            dsimp only [nth] at h14
            replace hK := hk_parB hK (by decide) 12 (by rfl)
            clear hd
            clear hz1
            simp only [lay, Act.put, List.setIfInBounds_toArray, List.set_cons_zero, List.set_cons_succ, h14] at hK ⊢
            go_simp
            first
              | (go_at_call 21; (with_reducible refine (refput_any _ w.heap.size L n1 W h0 hbW e1 (by omega)).mono ?_); rintro e w2 ⟨v1, rfl, hown1, hgr1, hat1⟩; exact hK.out _ _ hown1 hgr1 hat1)
              | (go_at_call 21; (with_reducible refine (refput_any _ w.heap.size (L ++ uvar n1) n2 W h4 hbW e2 (by simp only [List.length_append]; omega)).mono ?_); rintro e w2 ⟨v1, rfl, hown1, hgr1, hat1⟩; exact hK.out _ _ hown1 hgr1 hat1)
              | (go_at_call 21; (with_reducible refine (refput_any _ w.heap.size ((L ++ uvar n1) ++ uvar n2) n3 W h8 hbW e3 (by simp only [List.length_append]; omega)).mono ?_); rintro e w2 ⟨v1, rfl, hown1, hgr1, hat1⟩; exact hK.out _ _ hown1 hgr1 hat1)
              | (go_at_call 22; (with_reducible refine (refputbytes_any _ w.heap.size (((L ++ uvar n1) ++ uvar n2) ++ uvar n3) Al nl cl least W h12 hbW (HRL.out.below (hBW0.grown hB hbW0 hbs)) (own_key h12 HRL.out) (by simp only [List.length_append]; omega)).mono ?_); rintro e w1 ⟨v1, rfl, hown1, hgr1, hat1⟩; exact hK.out _ _ hown1 hgr1 hat1)
              | (go_at_call 22; (with_reducible refine (refputbytes_any _ w.heap.size ((((L ++ uvar n1) ++ uvar n2) ++ uvar n3) ++ uvar least.length ++ least) Am nm cm most W h15 hbW (HRM.out.below (hBW0.grown hB hbW0 hbs)) (own_key h15 HRM.out) (by simp only [List.length_append]; omega)).mono ?_); rintro e w1 ⟨v1, rfl, hown1, hgr1, hat1⟩; exact hK.out _ _ hown1 hgr1 hat1)
          refine OpsOK.cons ?_ ?_
          · intro u W K hB hz0 hz1 hd hK
            have hbW := Nat.le_trans hbW0 hB.size
            replace hK := hk_valB hK (by decide) (by rfl)
            clear hd
            clear hz1
            simp only [lay, Act.put, List.setIfInBounds_toArray, List.set_cons_zero, List.set_cons_succ] at hK ⊢
            go_simp
            exact hK.out _ _ rfl (Below.refl _ _)
          refine OpsOK.cons ?_ ?_
          · intro u W K hB hz0 hz1 hd hK
            have hbW := Nat.le_trans hbW0 hB.size
            have h16 := fact_valB (dep_of hd 16 (by kernel_rfl) (by kernel_rfl)) (by decide)
            dsimp only [nth] at h16
            replace hK := hk_valB hK (by decide) (by rfl)
            clear hd
            clear hz1
            simp only [lay, Act.put, List.setIfInBounds_toArray, List.set_cons_zero, List.set_cons_succ, h16] at hK ⊢
            have q4 := box_at (blk_grown hB hbt hneW) 4 (.slice Am nm cm) rfl
            go_simp
            exact hK.out _ _ rfl (Below.refl _ _)
          refine OpsOK.cons ?_ ?_
          · intro u W K hB hz0 hz1 hd hK
            have hbW := Nat.le_trans hbW0 hB.size
            have h15 := fact_rowB (dep_of hd 15 (by kernel_rfl) (by kernel_rfl)) (by decide)
            dsimp only [nth] at h15
            have h17 := fact_valB (dep_of hd 17 (by kernel_rfl) (by kernel_rfl)) (by decide)
            dsimp only [nth] at h17
            replace hK := hk_parB hK (by decide) 15 (by rfl)
            clear hd
            clear hz1
            simp only [lay, Act.put, List.setIfInBounds_toArray, List.set_cons_zero, List.set_cons_succ, h17] at hK ⊢
            go_simp
            first
              | (go_at_call 21; (with_reducible refine (refput_any _ w.heap.size L n1 W h0 hbW e1 (by omega)).mono ?_); rintro e w2 ⟨v1, rfl, hown1, hgr1, hat1⟩; exact hK.out _ _ hown1 hgr1 hat1)
              | (go_at_call 21; (with_reducible refine (refput_any _ w.heap.size (L ++ uvar n1) n2 W h4 hbW e2 (by simp only [List.length_append]; omega)).mono ?_); rintro e w2 ⟨v1, rfl, hown1, hgr1, hat1⟩; exact hK.out _ _ hown1 hgr1 hat1)
              | (go_at_call 21; (with_reducible refine (refput_any _ w.heap.size ((L ++ uvar n1) ++ uvar n2) n3 W h8 hbW e3 (by simp only [List.length_append]; omega)).mono ?_); rintro e w2 ⟨v1, rfl, hown1, hgr1, hat1⟩; exact hK.out _ _ hown1 hgr1 hat1)
              | (go_at_call 22; (with_reducible refine (refputbytes_any _ w.heap.size (((L ++ uvar n1) ++ uvar n2) ++ uvar n3) Al nl cl least W h12 hbW (HRL.out.below (hBW0.grown hB hbW0 hbs)) (own_key h12 HRL.out) (by simp only [List.length_append]; omega)).mono ?_); rintro e w1 ⟨v1, rfl, hown1, hgr1, hat1⟩; exact hK.out _ _ hown1 hgr1 hat1)
              | (go_at_call 22; (with_reducible refine (refputbytes_any _ w.heap.size ((((L ++ uvar n1) ++ uvar n2) ++ uvar n3) ++ uvar least.length ++ least) Am nm cm most W h15 hbW (HRM.out.below (hBW0.grown hB hbW0 hbs)) (own_key h15 HRM.out) (by simp only [List.length_append]; omega)).mono ?_); rintro e w1 ⟨v1, rfl, hown1, hgr1, hat1⟩; exact hK.out _ _ hown1 hgr1 hat1)
          refine OpsOK.cons ?_ ?_
          · intro u W K hB hz0 hz1 hd hK
            have hbW := Nat.le_trans hbW0 hB.size
            have h18 := fact_rowB (dep_of hd 18 (by kernel_rfl) (by kernel_rfl)) (by decide)
            dsimp only [nth] at h18
            replace hK := hk_parB hK (by decide) 18 (by rfl)
            clear hd
            clear hz1
            simp only [lay, Act.put, List.setIfInBounds_toArray, List.set_cons_zero, List.set_cons_succ] at hK ⊢
            go_simp
            exact hK.out _ _ h18 (grown_refl _ _) (AtRow.refl _ _)
          exact OpsOK.nil
        intro u W hB hf
        have h1 := fact_valB (hf 1 (by decide) (by decide)) (by decide)
        dsimp only [nth] at h1
        have h2 := fact_valB (hf 2 (by decide) (by decide)) (by decide)
        dsimp only [nth] at h2
        have h3 := fact_valB (hf 3 (by decide) (by decide)) (by decide)
        dsimp only [nth] at h3
        have h5 := fact_valB (hf 5 (by decide) (by decide)) (by decide)
        dsimp only [nth] at h5
        have h6 := fact_valB (hf 6 (by decide) (by decide)) (by decide)
        dsimp only [nth] at h6
        have h7 := fact_valB (hf 7 (by decide) (by decide)) (by decide)
        dsimp only [nth] at h7
        have h9 := fact_valB (hf 9 (by decide) (by decide)) (by decide)
        dsimp only [nth] at h9
        have h10 := fact_valB (hf 10 (by decide) (by decide)) (by decide)
        dsimp only [nth] at h10
        have h11 := fact_valB (hf 11 (by decide) (by decide)) (by decide)
        dsimp only [nth] at h11
        have h13 := fact_valB (hf 13 (by decide) (by decide)) (by decide)
        dsimp only [nth] at h13
        have h14 := fact_valB (hf 14 (by decide) (by decide)) (by decide)
        dsimp only [nth] at h14
        have h16 := fact_valB (hf 16 (by decide) (by decide)) (by decide)
        dsimp only [nth] at h16
        have h17 := fact_valB (hf 17 (by decide) (by decide)) (by decide)
        dsimp only [nth] at h17
        have h19 := fact_rowB (hf 19 (by decide) (by decide)) (by decide)
        dsimp only [nth] at h19
        clear hf
        simp only [lay, h1, h2, h3, h5, h6, h7, h9, h10, h11, h13, h14, h16, h17]
        clear h1 h2 h3 h5 h6 h7 h9 h10 h11 h13 h14 h16 h17
        go_wp2
        go_roundw
        case rel => exact ⟨k + 1, by omega, by go_num, by rw [HNX.out, HHT.out]; exact h19, hJW.grown hB hneJ hbW0 hbs⟩
        case measure => simp [intOf]; omega
      · obtain rfl : k = na := by omega
        have hlen := HLA.out k (by rw [HAN.out]; omega)
        have hL0 : accR (accA gl gx gs ts k) zs 0 = accA gl gx gs ts k ++ uvar nr := by rw [accR, HRN.out]
        have hLR := accR_len (accA gl gx gs ts k) zs
        have HL0 := hid hL0
        have HLR := hid hLR
        generalize accA gl gx gs ts k = L at *
        have hw := wrap_u64_nat nr (by omega)
        have hsz9 : w.heap.size ≤ wr.heap.size := hJ.2.size
        have hq5 := box_at hJ.1 4 (.slice Ar nr cr) rfl
        have hneJ := OB.ne_blk hown hJ.1 (by decide)
        have hbs := OB.base_ hown
        clear hL0 hLR
        go_wp2_with (go_at_call 21; (with_reducible refine (refput_any _ w.heap.size L nr _ hown hsz9 (by omega) (by omega)).mono ?_); rintro e w2 ⟨v2, rfl, hown2, hgr2, hat2⟩; have hJ2 := hJ.grown hgr2 hneJ hJ.2.size hbs; have hq6 := box_at hJ2.1 4 (.slice Ar nr cr) rfl; rw [← HL0.out] at hown2)
        go_loopw [4, 65] (fun v i wr => ∃ j : Nat, j ≤ nr ∧ i = .int .i64 j ∧ OB wr w.heap.size v (accR L zs j) ∧ MayJ w wr gl gx gs Aa k ca Ar nr cr) (fun v i wr => nr - (intOf i).toNat)
        case atStart => exact ⟨0, Nat.zero_le _, rfl, hown2, hJ2⟩
        case round =>
          obtain ⟨j, hj, rfl, hown, hJ⟩ := hrel
          by_cases hlt : j < nr
          · obtain ⟨ad, rfl, hc0⟩ := (HZ.out.below hJ.2).at_ hlt
            obtain ⟨z1, z2⟩ := H7.out j hlt
            have hlen2 := HLR.out j
            have hnx : accR L zs (j + 1) = accR L zs j ++ uvar (elt 0 zs j).toNat := rfl
            obtain ⟨g, hg⟩ : ∃ g : Nat, elt 0 zs j = (g : Int) := ⟨(elt 0 zs j).toNat, by omega⟩
            rw [hg] at hnx hc0 z1 z2
            rw [Int.toNat_natCast] at hnx
            have HNX := hid hnx
            have hg2 : g < 18446744073709551616 := by omega
            have hneJ := OB.ne_blk hown hJ.1 (by decide)
            have hbs := OB.base_ hown
            clear hnx hg
            generalize accR L zs j = L4 at *
            have hsz9 : w.heap.size ≤ wr.heap.size := hJ.2.size
            have hw := wrap_u64_nat g hg2
            go_wp2_with (go_at_call 21; (with_reducible refine (refput_any _ w.heap.size L4 g _ hown hsz9 hg2 (by omega)).mono ?_); rintro e w2 ⟨v2, rfl, hown2, hgr2, hat2⟩; have hJ2 := hJ.grown hgr2 hneJ hJ.2.size hbs)
            go_roundw
            case rel => exact ⟨j + 1, by omega, by go_num, by rw [HNX.out]; exact hown2, hJ2⟩
            case measure => simp [intOf]; omega
          · obtain rfl : j = nr := by omega
            have HO := hid hown
            clear hown
            go_wp2
            go_ret2
            exact ⟨_, rfl, by rw [HX.out]; exact HO.out, hJ.2⟩
end Go.Proofs.Ythiolcccgiibhaa
