/- Layer 14: any edit: may it be; its bytes: the walk of the statement. -/
import Derived.Test.YthiolcccgiibhaaEdA
import Derived.Test.YthiolcccgiibhaaEdG
namespace Go.Proofs.Ythiolcccgiibhaa
open Go.RowKit
set_option linter.unusedVariables false
set_option linter.unusedSimpArgs false

def IsB (e : Ending) : Prop := ∃ b, e = .returned (.bool b)
set_option maxHeartbeats 8000000 in
set_option maxRecDepth 100000 in
theorem light_any (l x s : Int) (Aa : Option Addr) (na ca : Nat) (ts : List TabR) (Ar : Option Addr) (nr cr : Nat) (zs : List Int) (w : World) (hT : RTabs w Aa na ts) (hZ : RN .i64 w Ar nr zs) :
    Calls Try.prog 10 #[.agg #[.int .i64 l, .int .i64 x, .int .i64 s, .slice Aa na ca, .slice Ar nr cr]] w fun e w' => IsB e ∧ Below w.heap.size w w' := by
  have hma := hT.2.1
  have hmr := hZ.2.1
  have HT := hid hT
  have HJ := hid (show MayJ w (w.alloc (.cells #[.int .i64 l, .int .i64 x, .int .i64 s, .slice Aa na ca, .slice Ar nr cr] 30)) l x s Aa na ca Ar nr cr from ⟨heap_alloc_new w _, below_alloc' (Below.refl _ _) _⟩)
  clear hT hZ
  go_enter Try.func10, Try.ntmps10
  go_wp2
  go_loopw [8] (fun i wr => ∃ k : Nat, k ≤ na ∧ i = .int .i64 k ∧ MayJ w wr l x s Aa na ca Ar nr cr) (fun i wr => na - (intOf i).toNat)
  case atStart => exact ⟨0, Nat.zero_le _, rfl, HJ.out⟩
  case round =>
    obtain ⟨k, hk, rfl, hJ⟩ := hrel
    by_cases hlt : k < na
    · obtain ⟨ad, rfl, hcells⟩ := HT.out.at_ hlt
      obtain ⟨Al, nl, cl, Am, nm, cm, hc0, hc1, hc2, hc3, hc4, hrl, hcl, hrm, hcm, _, _, _⟩ := hcells.below hJ.2
      have hnl := hrl.2.1
      have hnm := hrm.2.1
      have hJ2 := fun o => hJ.below (below_alloc' (Below.refl _ _) o)
      clear hrl hrm hcl hcm hcells
      go_wp2
      all_goals
        first
        | (go_ret
           exact ⟨⟨_, rfl⟩, (hJ2 _).2⟩)
        | (go_roundw
           case rel => exact ⟨k + 1, by omega, by go_num, hJ2 _⟩
           case measure => simp [intOf]; omega)
    · obtain rfl : k = na := by omega
      have hq := box_at hJ.1 4 (.slice Ar nr cr) rfl
      go_wp2
      go_ret
      exact ⟨⟨_, rfl⟩, hJ.2⟩
set_option maxHeartbeats 16000000 in
set_option maxRecDepth 100000 in
theorem EditEncodes_walk (l x s : Int) (Aa : Option Addr) (na ca : Nat) (ts : List TabR) (Ar : Option Addr) (nr cr : Nat) (zs : List Int) (w : World) (hT : RTabs w Aa na ts) (hca : na ≤ ca) (hZ : RN .i64 w Ar nr zs) (hcr : nr ≤ cr) :
    Calls Try.prog 4 #[.agg #[.int .i64 l, .int .i64 x, .int .i64 s, .slice Aa na ca, .slice Ar nr cr]] w fun e w' => e = .returned (.bool true) ∧ Below w.heap.size w w' := by
  obtain ⟨M, hM⟩ : ∃ M, mayEd l x s ts zs = M := ⟨_, rfl⟩
  obtain ⟨E, hE⟩ : ∃ E : Int, (if mayEd l x s ts zs = true then (0 : Int) else 1) = E := ⟨_, rfl⟩
  obtain ⟨X, hX⟩ : ∃ X, encE l x s ts zs = X := ⟨_, rfl⟩
  have HM := hid hM
  have HE := hid hE
  have HX := hid hX
  have HT1 := hid (hT.below (below_alloc' (Below.refl _ _) (.cells #[.int .i64 l, .int .i64 x, .int .i64 s, .slice Aa na ca, .slice Ar nr cr] 30)))
  have HZ1 := hid (hZ.below (below_alloc' (Below.refl _ _) (.cells #[.int .i64 l, .int .i64 x, .int .i64 s, .slice Aa na ca, .slice Ar nr cr] 30)))
  have HJ := hid (show MayJ w (w.alloc (.cells #[.int .i64 l, .int .i64 x, .int .i64 s, .slice Aa na ca, .slice Ar nr cr] 30)) l x s Aa na ca Ar nr cr from ⟨heap_alloc_new w _, below_alloc' (Below.refl _ _) _⟩)
  clear hM hE hX hT hZ
  go_enter Try.func4, Try.ntmps4
  go_wp2_with (first
    | (go_at_call 10; (with_reducible refine (light_any l x s Aa na ca ts Ar nr cr zs _ HT1.out HZ1.out).mono ?_); rintro e w1 ⟨⟨b, rfl⟩, hb1⟩; have hJ1 := HJ.out.below hb1; have hT1 := HT1.out.below hb1; have hZ1 := HZ1.out.below hb1; have q0 := box_at hJ1.1 0 (.int .i64 l) rfl; have q1 := box_at hJ1.1 1 (.int .i64 x) rfl; have q2 := box_at hJ1.1 2 (.int .i64 s) rfl; have q3 := box_at hJ1.1 3 (.slice Aa na ca) rfl; have q4 := box_at hJ1.1 4 (.slice Ar nr cr) rfl)
    | (go_at_call 9; (with_reducible refine (awake_any _).mono ?_); rintro e w2 ⟨rfl, hbz⟩)
    | (go_at_call 11; (with_reducible refine (encode_any l x s Aa na ca ts Ar nr cr zs _ hT1 hZ1).mono ?_); rintro e w2 ⟨v2, rfl, hown2, hb2⟩; rw [HE.out]; rw [HX.out] at hown2; have hJ2 := hJ1.below hb2; have hT2 := hT1.below hb2; have hZ2 := hZ1.below hb2; have r0 := box_at hJ2.1 0 (.int .i64 l) rfl; have r1 := box_at hJ2.1 1 (.int .i64 x) rfl; have r2 := box_at hJ2.1 2 (.int .i64 s) rfl; have r3 := box_at hJ2.1 3 (.slice Aa na ca) rfl; have r4 := box_at hJ2.1 4 (.slice Ar nr cr) rfl)
    | (go_at_call 12; (with_reducible refine (refenc_any l x s Aa na ca ts Ar nr cr zs _ hT2 hca hZ2 hcr).mono ?_); rintro e w3 ⟨v3, rfl, hown3, hb3⟩; rw [HE.out]; rw [HX.out] at hown3; have hJ3 := hJ2.below hb3; have hT3 := hT2.below hb3; have hZ3 := hZ2.below hb3; have hown2 := hown2.below hb3; have hbk3 := hJ3.1; have hbw3 : Below w.heap.size w w3 := hJ3.2))
  · go_ret
    exact ⟨rfl, (hJ1.below hbz).2⟩
  · clear q0 q1 q2 q3 q4 r0 r1 r2 r3 r4 hT1 hZ1 hT2 hZ2 hb1 hb2 hb3
    apply wp_region_txt [none, none, some 20, none, none, none, none, none, none, none, none, none, none, none, none, none, none, none, none, none, none, some 0, some 1, some 2, some 3, some 4, some 5, some 6, some 7, some 8, some 9, some 10, some 11, some 12, some 13, some 14, some 15, some 16, some 17, some 18, some 19] [] [] [_, _, _, _, _, _, _, _, _, _, _, _, _, _, _, _, _, _, _, _, _] [[], [], [], [], [], [], [], [], [], [], [], [], [], [], [], [], [], [], [], [], []]
    case hm => rfl
    case hs => rfl
    case hst => kernel_rfl
    case hput => exact OpsOK.cons (fun _ _ => rfl) (OpsOK.cons (fun _ _ => rfl) (OpsOK.cons (fun _ _ => rfl) (OpsOK.cons (fun _ _ => rfl) (OpsOK.cons (fun _ _ => rfl) (OpsOK.cons (fun _ _ => rfl) (OpsOK.cons (fun _ _ => rfl) (OpsOK.cons (fun _ _ => rfl) (OpsOK.cons (fun _ _ => rfl) (OpsOK.cons (fun _ _ => rfl) (OpsOK.cons (fun _ _ => rfl) (OpsOK.cons (fun _ _ => rfl) (OpsOK.cons (fun _ _ => rfl) (OpsOK.cons (fun _ _ => rfl) (OpsOK.cons (fun _ _ => rfl) (OpsOK.cons (fun _ _ => rfl) (OpsOK.cons (fun _ _ => rfl) (OpsOK.cons (fun _ _ => rfl) (OpsOK.cons (fun _ _ => rfl) (OpsOK.cons (fun _ _ => rfl) (OpsOK.cons (fun _ _ => rfl) (OpsOK.nil)))))))))))))))))))))
    case hops =>
      refine OpsOK.cons ?_ ?_
      · intro u W K hB hd hK
        replace hK := hk_val hK (by decide) (by rfl)
        clear hd
        simp only [lay, Act.put, List.setIfInBounds_toArray, List.set_cons_zero, List.set_cons_succ] at hK ⊢
        have q0 := box_at (blk_below hB hbk3) 0 (.int .i64 l) rfl
        have q1 := box_at (blk_below hB hbk3) 1 (.int .i64 x) rfl
        have q2 := box_at (blk_below hB hbk3) 2 (.int .i64 s) rfl
        have q3 := box_at (blk_below hB hbk3) 3 (.slice Aa na ca) rfl
        have q4 := box_at (blk_below hB hbk3) 4 (.slice Ar nr cr) rfl
        go_simp
        exact hK.out _ _ rfl (Below.refl _ _)
      refine OpsOK.cons ?_ ?_
      · intro u W K hB hd hK
        have h0 := fact_val (dep_of hd 0 (by kernel_rfl) (by kernel_rfl)) (by decide)
        dsimp only [nth] at h0
        replace hK := hk_val hK (by decide) (by rfl)
        clear hd
        simp only [lay, Act.put, List.setIfInBounds_toArray, List.set_cons_zero, List.set_cons_succ, h0] at hK ⊢
        go_simp
        first
          | (go_at_call 13; (with_reducible refine (mayedit_any l x s Aa na ca ts Ar nr cr zs W (hT3.below hB) (hZ3.below hB)).mono ?_); rintro e w1 ⟨rfl, hb⟩; rw [HM.out]; exact hK.out _ _ rfl hb)
          | (go_at_call 14; (with_reducible refine (refmayedit_any l x s Aa na ca ts Ar nr cr zs W (hT3.below hB) hca (hZ3.below hB) hcr).mono ?_); rintro e w1 ⟨rfl, hb⟩; rw [HM.out]; exact hK.out _ _ rfl hb)
          | (go_at_call 9; (with_reducible refine (awake_any _).mono ?_); rintro e w1 ⟨rfl, hb⟩; exact hK.out _ _ rfl hb)
      refine OpsOK.cons ?_ ?_
      · intro u W K hB hd hK
        replace hK := hk_val hK (by decide) (by rfl)
        clear hd
        simp only [lay, Act.put, List.setIfInBounds_toArray, List.set_cons_zero, List.set_cons_succ] at hK ⊢
        have q0 := box_at (blk_below hB hbk3) 0 (.int .i64 l) rfl
        have q1 := box_at (blk_below hB hbk3) 1 (.int .i64 x) rfl
        have q2 := box_at (blk_below hB hbk3) 2 (.int .i64 s) rfl
        have q3 := box_at (blk_below hB hbk3) 3 (.slice Aa na ca) rfl
        have q4 := box_at (blk_below hB hbk3) 4 (.slice Ar nr cr) rfl
        go_simp
        exact hK.out _ _ rfl (Below.refl _ _)
      refine OpsOK.cons ?_ ?_
      · intro u W K hB hd hK
        have h1 := fact_val (dep_of hd 1 (by kernel_rfl) (by kernel_rfl)) (by decide)
        dsimp only [nth] at h1
        have h2 := fact_val (dep_of hd 2 (by kernel_rfl) (by kernel_rfl)) (by decide)
        dsimp only [nth] at h2
        replace hK := hk_val hK (by decide) (by rfl)
        clear hd
        simp only [lay, Act.put, List.setIfInBounds_toArray, List.set_cons_zero, List.set_cons_succ, h1, h2] at hK ⊢
        go_simp
        first
          | (go_at_call 13; (with_reducible refine (mayedit_any l x s Aa na ca ts Ar nr cr zs W (hT3.below hB) (hZ3.below hB)).mono ?_); rintro e w1 ⟨rfl, hb⟩; rw [HM.out]; exact hK.out _ _ rfl hb)
          | (go_at_call 14; (with_reducible refine (refmayedit_any l x s Aa na ca ts Ar nr cr zs W (hT3.below hB) hca (hZ3.below hB) hcr).mono ?_); rintro e w1 ⟨rfl, hb⟩; rw [HM.out]; exact hK.out _ _ rfl hb)
          | (go_at_call 9; (with_reducible refine (awake_any _).mono ?_); rintro e w1 ⟨rfl, hb⟩; exact hK.out _ _ rfl hb)
      refine OpsOK.cons ?_ ?_
      · intro u W K hB hd hK
        have h1 := fact_val (dep_of hd 1 (by kernel_rfl) (by kernel_rfl)) (by decide)
        dsimp only [nth] at h1
        have h3 := fact_val (dep_of hd 3 (by kernel_rfl) (by kernel_rfl)) (by decide)
        dsimp only [nth] at h3
        replace hK := hk_val hK (by decide) (by rfl)
        clear hd
        simp only [lay, Act.put, List.setIfInBounds_toArray, List.set_cons_zero, List.set_cons_succ, h1, h3] at hK ⊢
        go_simp
        exact hK.out _ _ rfl (Below.refl _ _)
      refine OpsOK.cons ?_ ?_
      · intro u W K hB hd hK
        have h3 := fact_val (dep_of hd 3 (by kernel_rfl) (by kernel_rfl)) (by decide)
        dsimp only [nth] at h3
        have h4 := fact_val (dep_of hd 4 (by kernel_rfl) (by kernel_rfl)) (by decide)
        dsimp only [nth] at h4
        replace hK := hk_val hK (by decide) (by rfl)
        clear hd
        simp only [lay, Act.put, List.setIfInBounds_toArray, List.set_cons_zero, List.set_cons_succ, h3, h4] at hK ⊢
        go_simp
        exact hK.out _ _ rfl (Below.refl _ _)
      refine OpsOK.cons ?_ ?_
      · intro u W K hB hd hK
        have h5 := fact_val (dep_of hd 5 (by kernel_rfl) (by kernel_rfl)) (by decide)
        dsimp only [nth] at h5
        replace hK := hk_val hK (by decide) (by rfl)
        clear hd
        simp only [lay, Act.put, List.setIfInBounds_toArray, List.set_cons_zero, List.set_cons_succ, h5] at hK ⊢
        go_simp
        exact hK.out _ _ rfl (Below.refl _ _)
      refine OpsOK.cons ?_ ?_
      · intro u W K hB hd hK
        have h5 := fact_val (dep_of hd 5 (by kernel_rfl) (by kernel_rfl)) (by decide)
        dsimp only [nth] at h5
        have h6 := fact_val (dep_of hd 6 (by kernel_rfl) (by kernel_rfl)) (by decide)
        dsimp only [nth] at h6
        replace hK := hk_val hK (by decide) (by rfl)
        clear hd
        simp only [lay, Act.put, List.setIfInBounds_toArray, List.set_cons_zero, List.set_cons_succ, h5, h6] at hK ⊢
        have hcv := OB.conv (hown2.below hB)
        go_simp
        exact hK.out _ _ rfl (Below.refl _ _)
      refine OpsOK.cons ?_ ?_
      · intro u W K hB hd hK
        have h5 := fact_val (dep_of hd 5 (by kernel_rfl) (by kernel_rfl)) (by decide)
        dsimp only [nth] at h5
        replace hK := hk_val hK (by decide) (by rfl)
        clear hd
        simp only [lay, Act.put, List.setIfInBounds_toArray, List.set_cons_zero, List.set_cons_succ, h5] at hK ⊢
        go_simp
        exact hK.out _ _ rfl (Below.refl _ _)
      refine OpsOK.cons ?_ ?_
      · intro u W K hB hd hK
        have h5 := fact_val (dep_of hd 5 (by kernel_rfl) (by kernel_rfl)) (by decide)
        dsimp only [nth] at h5
        have h8 := fact_val (dep_of hd 8 (by kernel_rfl) (by kernel_rfl)) (by decide)
        dsimp only [nth] at h8
        replace hK := hk_val hK (by decide) (by rfl)
        clear hd
        simp only [lay, Act.put, List.setIfInBounds_toArray, List.set_cons_zero, List.set_cons_succ, h5, h8] at hK ⊢
        have hcv := OB.conv (hown3.below hB)
        go_simp
        exact hK.out _ _ rfl (Below.refl _ _)
      refine OpsOK.cons ?_ ?_
      · intro u W K hB hd hK
        have h5 := fact_val (dep_of hd 5 (by kernel_rfl) (by kernel_rfl)) (by decide)
        dsimp only [nth] at h5
        have h7 := fact_val (dep_of hd 7 (by kernel_rfl) (by kernel_rfl)) (by decide)
        dsimp only [nth] at h7
        have h9 := fact_val (dep_of hd 9 (by kernel_rfl) (by kernel_rfl)) (by decide)
        dsimp only [nth] at h9
        replace hK := hk_val hK (by decide) (by rfl)
        clear hd
        simp only [lay, Act.put, List.setIfInBounds_toArray, List.set_cons_zero, List.set_cons_succ, h5, h7, h9] at hK ⊢
        go_simp
        exact hK.out _ _ rfl (Below.refl _ _)
      refine OpsOK.cons ?_ ?_
      · intro u W K hB hd hK
        have h5 := fact_val (dep_of hd 5 (by kernel_rfl) (by kernel_rfl)) (by decide)
        dsimp only [nth] at h5
        have h10 := fact_val (dep_of hd 10 (by kernel_rfl) (by kernel_rfl)) (by decide)
        dsimp only [nth] at h10
        replace hK := hk_val hK (by decide) (by rfl)
        clear hd
        simp only [lay, Act.put, List.setIfInBounds_toArray, List.set_cons_zero, List.set_cons_succ, h5, h10] at hK ⊢
        go_simp
        exact hK.out _ _ rfl (Below.refl _ _)
      refine OpsOK.cons ?_ ?_
      · intro u W K hB hd hK
        have h5 := fact_val (dep_of hd 5 (by kernel_rfl) (by kernel_rfl)) (by decide)
        dsimp only [nth] at h5
        have h11 := fact_val (dep_of hd 11 (by kernel_rfl) (by kernel_rfl)) (by decide)
        dsimp only [nth] at h11
        replace hK := hk_val hK (by decide) (by rfl)
        clear hd
        simp only [lay, Act.put, List.setIfInBounds_toArray, List.set_cons_zero, List.set_cons_succ, h5, h11] at hK ⊢
        go_simp
        exact hK.out _ _ rfl (Below.refl _ _)
      refine OpsOK.cons ?_ ?_
      · intro u W K hB hd hK
        have h12 := fact_val (dep_of hd 12 (by kernel_rfl) (by kernel_rfl)) (by decide)
        dsimp only [nth] at h12
        replace hK := hk_val hK (by decide) (by rfl)
        clear hd
        simp only [lay, Act.put, List.setIfInBounds_toArray, List.set_cons_zero, List.set_cons_succ, h12] at hK ⊢
        go_simp
        exact hK.out _ _ rfl (Below.refl _ _)
      refine OpsOK.cons ?_ ?_
      · intro u W K hB hd hK
        have h12 := fact_val (dep_of hd 12 (by kernel_rfl) (by kernel_rfl)) (by decide)
        dsimp only [nth] at h12
        replace hK := hk_val hK (by decide) (by rfl)
        clear hd
        simp only [lay, Act.put, List.setIfInBounds_toArray, List.set_cons_zero, List.set_cons_succ, h12] at hK ⊢
        go_simp
        exact hK.out _ _ rfl (Below.refl _ _)
      refine OpsOK.cons ?_ ?_
      · intro u W K hB hd hK
        have h12 := fact_val (dep_of hd 12 (by kernel_rfl) (by kernel_rfl)) (by decide)
        dsimp only [nth] at h12
        have h13 := fact_val (dep_of hd 13 (by kernel_rfl) (by kernel_rfl)) (by decide)
        dsimp only [nth] at h13
        have h14 := fact_val (dep_of hd 14 (by kernel_rfl) (by kernel_rfl)) (by decide)
        dsimp only [nth] at h14
        replace hK := hk_val hK (by decide) (by rfl)
        clear hd
        simp only [lay, Act.put, List.setIfInBounds_toArray, List.set_cons_zero, List.set_cons_succ, h12, h13, h14] at hK ⊢
        go_simp
        exact hK.out _ _ rfl (Below.refl _ _)
      refine OpsOK.cons ?_ ?_
      · intro u W K hB hd hK
        have h12 := fact_val (dep_of hd 12 (by kernel_rfl) (by kernel_rfl)) (by decide)
        dsimp only [nth] at h12
        have h15 := fact_val (dep_of hd 15 (by kernel_rfl) (by kernel_rfl)) (by decide)
        dsimp only [nth] at h15
        replace hK := hk_val hK (by decide) (by rfl)
        clear hd
        simp only [lay, Act.put, List.setIfInBounds_toArray, List.set_cons_zero, List.set_cons_succ, h12, h15] at hK ⊢
        go_simp
        exact hK.out _ _ rfl (Below.refl _ _)
      refine OpsOK.cons ?_ ?_
      · intro u W K hB hd hK
        have h12 := fact_val (dep_of hd 12 (by kernel_rfl) (by kernel_rfl)) (by decide)
        dsimp only [nth] at h12
        have h16 := fact_val (dep_of hd 16 (by kernel_rfl) (by kernel_rfl)) (by decide)
        dsimp only [nth] at h16
        replace hK := hk_val hK (by decide) (by rfl)
        clear hd
        simp only [lay, Act.put, List.setIfInBounds_toArray, List.set_cons_zero, List.set_cons_succ, h12, h16] at hK ⊢
        go_simp
        exact hK.out _ _ rfl (Below.refl _ _)
      refine OpsOK.cons ?_ ?_
      · intro u W K hB hd hK
        have h17 := fact_val (dep_of hd 17 (by kernel_rfl) (by kernel_rfl)) (by decide)
        dsimp only [nth] at h17
        replace hK := hk_val hK (by decide) (by rfl)
        clear hd
        simp only [lay, Act.put, List.setIfInBounds_toArray, List.set_cons_zero, List.set_cons_succ, h17] at hK ⊢
        go_simp
        first
          | (go_at_call 13; (with_reducible refine (mayedit_any l x s Aa na ca ts Ar nr cr zs W (hT3.below hB) (hZ3.below hB)).mono ?_); rintro e w1 ⟨rfl, hb⟩; rw [HM.out]; exact hK.out _ _ rfl hb)
          | (go_at_call 14; (with_reducible refine (refmayedit_any l x s Aa na ca ts Ar nr cr zs W (hT3.below hB) hca (hZ3.below hB) hcr).mono ?_); rintro e w1 ⟨rfl, hb⟩; rw [HM.out]; exact hK.out _ _ rfl hb)
          | (go_at_call 9; (with_reducible refine (awake_any _).mono ?_); rintro e w1 ⟨rfl, hb⟩; exact hK.out _ _ rfl hb)
      refine OpsOK.cons ?_ ?_
      · intro u W K hB hd hK
        have h17 := fact_val (dep_of hd 17 (by kernel_rfl) (by kernel_rfl)) (by decide)
        dsimp only [nth] at h17
        have h18 := fact_val (dep_of hd 18 (by kernel_rfl) (by kernel_rfl)) (by decide)
        dsimp only [nth] at h18
        replace hK := hk_val hK (by decide) (by rfl)
        clear hd
        simp only [lay, Act.put, List.setIfInBounds_toArray, List.set_cons_zero, List.set_cons_succ, h17, h18] at hK ⊢
        go_simp
        exact hK.out _ _ rfl (Below.refl _ _)
      refine OpsOK.cons ?_ ?_
      · intro u W K hB hd hK
        have h18 := fact_val (dep_of hd 18 (by kernel_rfl) (by kernel_rfl)) (by decide)
        dsimp only [nth] at h18
        have h19 := fact_val (dep_of hd 19 (by kernel_rfl) (by kernel_rfl)) (by decide)
        dsimp only [nth] at h19
        replace hK := hk_val hK (by decide) (by rfl)
        clear hd
        simp only [lay, Act.put, List.setIfInBounds_toArray, List.set_cons_zero, List.set_cons_succ, h18, h19] at hK ⊢
        go_simp
        exact hK.out _ _ rfl (Below.refl _ _)
      exact OpsOK.nil
    intro u W hB hf
    have h0 := fact_val (hf 0 (by decide) (by decide)) (by decide)
    dsimp only [nth] at h0
    have h1 := fact_val (hf 1 (by decide) (by decide)) (by decide)
    dsimp only [nth] at h1
    have h2 := fact_val (hf 2 (by decide) (by decide)) (by decide)
    dsimp only [nth] at h2
    have h3 := fact_val (hf 3 (by decide) (by decide)) (by decide)
    dsimp only [nth] at h3
    have h4 := fact_val (hf 4 (by decide) (by decide)) (by decide)
    dsimp only [nth] at h4
    have h5 := fact_val (hf 5 (by decide) (by decide)) (by decide)
    dsimp only [nth] at h5
    have h6 := fact_val (hf 6 (by decide) (by decide)) (by decide)
    dsimp only [nth] at h6
    have h7 := fact_val (hf 7 (by decide) (by decide)) (by decide)
    dsimp only [nth] at h7
    have h8 := fact_val (hf 8 (by decide) (by decide)) (by decide)
    dsimp only [nth] at h8
    have h9 := fact_val (hf 9 (by decide) (by decide)) (by decide)
    dsimp only [nth] at h9
    have h10 := fact_val (hf 10 (by decide) (by decide)) (by decide)
    dsimp only [nth] at h10
    have h11 := fact_val (hf 11 (by decide) (by decide)) (by decide)
    dsimp only [nth] at h11
    have h12 := fact_val (hf 12 (by decide) (by decide)) (by decide)
    dsimp only [nth] at h12
    have h13 := fact_val (hf 13 (by decide) (by decide)) (by decide)
    dsimp only [nth] at h13
    have h14 := fact_val (hf 14 (by decide) (by decide)) (by decide)
    dsimp only [nth] at h14
    have h15 := fact_val (hf 15 (by decide) (by decide)) (by decide)
    dsimp only [nth] at h15
    have h16 := fact_val (hf 16 (by decide) (by decide)) (by decide)
    dsimp only [nth] at h16
    have h17 := fact_val (hf 17 (by decide) (by decide)) (by decide)
    dsimp only [nth] at h17
    have h18 := fact_val (hf 18 (by decide) (by decide)) (by decide)
    dsimp only [nth] at h18
    have h19 := fact_val (hf 19 (by decide) (by decide)) (by decide)
    dsimp only [nth] at h19
    have h20 := fact_val (hf 20 (by decide) (by decide)) (by decide)
    dsimp only [nth] at h20
    clear hf
    simp only [lay, h0, h1, h2, h3, h4, h5, h6, h7, h8, h9, h10, h11, h12, h13, h14, h15, h16, h17, h18, h19, h20]
    clear h0 h1 h2 h3 h4 h5 h6 h7 h8 h9 h10 h11 h12 h13 h14 h15 h16 h17 h18 h19 h20
    go_wp2
    go_ret
    exact ⟨rfl, below_then hbw3 hB⟩
end Go.Proofs.Ythiolcccgiibhaa
