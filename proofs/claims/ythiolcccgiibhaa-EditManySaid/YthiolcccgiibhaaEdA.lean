/- Layer 14: an edit that is known; any line: the walk of the statement. -/
import Derived.Test.YthiolcccgiibhaaEdE
import Derived.Test.YthiolcccgiibhaaEdR
namespace Go.Proofs.Ythiolcccgiibhaa
open Go.RowKit
set_option linter.unusedVariables false
set_option linter.unusedSimpArgs false

theorem known_may : mayEd 3 4 9 [] [2] = true := by decide +kernel
theorem known_enc : encE 3 4 9 [] [2] = [3, 4, 9, 0, 1, 2] := by decide +kernel
theorem known_str : (bstr [3, 4, 9, 0, 1, 2]) = ⟨#[3, 4, 9, 0, 1, 2]⟩ := by decide +kernel
set_option maxHeartbeats 4000000 in
theorem awake_any (w : World) : Calls Try.prog 9 #[] w fun e w' => e = .returned (.bool true) ∧ Below w.heap.size w w' := by
  have hN : RN .i64 (w.alloc (.cells #[.int .i64 2] 2)) (some ⟨w.heap.size, 0, none⟩) 1 [2] := by
    refine ⟨rfl, by decide, fun j hj => ?_, fun _ => ⟨_, rfl, fun j hj => ?_⟩⟩
    · obtain rfl : j = 0 := by omega
      decide
    · obtain rfl : j = 0 := by omega
      rw [add_plain]
      exact box_at (heap_alloc_new w _) 0 _ rfl
  have HN := hid hN
  have HT : Hid (RTabs (w.alloc (.cells #[.int .i64 2] 2)) none 0 []) := ⟨rfl, by decide, fun h => absurd h (by omega)⟩
  clear hN
  go_enter Try.func9, Try.ntmps9
  go_wp2_with (go_at_call 11; (with_reducible refine (encode_any 3 4 9 none 0 0 [] _ 1 1 [2] _ HT.out HN.out).mono ?_); rintro e w1 ⟨v1, rfl, hown, hb⟩; rw [known_may]; rw [known_enc] at hown; have hcv := hown.conv; rw [known_str] at hcv)
  go_ret
  exact ⟨rfl, below_then (below_alloc' (Below.refl _ _) _) hb⟩
set_option maxHeartbeats 8000000 in
theorem EditLines_walk (num lev size : Int) (Al : Option Addr) (nl cl : Nat) (least : List UInt8) (Am : Option Addr) (nm cm : Nat) (most : List UInt8) (w : World) (hl : RB w Al nl least) (hm : RB w Am nm most) :
    Calls Try.prog 3 #[.agg #[.int .i64 num, .int .i64 lev, .int .i64 size, .slice Al nl cl, .slice Am nm cm]] w fun e w' => e = .returned (.bool true) ∧ Below w.heap.size w w' := by
  obtain ⟨T, hT⟩ : ∃ T, mayTE num lev size nl nm (cmpB least most) = T := ⟨_, rfl⟩
  have H1 := hid (hl.alloc (.cells #[.int .i64 num, .int .i64 lev, .int .i64 size, .slice Al nl cl, .slice Am nm cm] 24))
  have H2 := hid (hm.alloc (.cells #[.int .i64 num, .int .i64 lev, .int .i64 size, .slice Al nl cl, .slice Am nm cm] 24))
  have hbk := heap_alloc_new w (.cells #[.int .i64 num, .int .i64 lev, .int .i64 size, .slice Al nl cl, .slice Am nm cm] 24)
  have HB := hid (below_alloc' (Below.refl w.heap.size w) (.cells #[.int .i64 num, .int .i64 lev, .int .i64 size, .slice Al nl cl, .slice Am nm cm] 24))
  have HT := hid hT
  clear hl hm hT
  go_enter Try.func3, Try.ntmps3
  go_wp2
  generalize w.alloc (.cells #[.int .i64 num, .int .i64 lev, .int .i64 size, .slice Al nl cl, .slice Am nm cm] 24) = W0 at *
  apply wp_region_txt [none, none, some 8, some 0, some 1, some 2, some 3, some 4, some 5, some 6, some 7] [] [] [_, _, _, _, _, _, _, _, _] [[], [], [], [], [], [], [], [], []]
  case hm => rfl
  case hs => rfl
  case hst => kernel_rfl
  case hput => exact OpsOK.cons (fun _ _ => rfl) (OpsOK.cons (fun _ _ => rfl) (OpsOK.cons (fun _ _ => rfl) (OpsOK.cons (fun _ _ => rfl) (OpsOK.cons (fun _ _ => rfl) (OpsOK.cons (fun _ _ => rfl) (OpsOK.cons (fun _ _ => rfl) (OpsOK.cons (fun _ _ => rfl) (OpsOK.cons (fun _ _ => rfl) (OpsOK.nil)))))))))
  case hops =>
    refine OpsOK.cons ?_ ?_
    · intro u W K hB hd hK
      replace hK := hk_val hK (by decide) (by rfl)
      clear hd
      simp only [lay, Act.put, List.setIfInBounds_toArray, List.set_cons_zero, List.set_cons_succ] at hK ⊢
      have q0 := box_at (blk_below hB hbk) 0 (.int .i64 num) rfl
      have q1 := box_at (blk_below hB hbk) 1 (.int .i64 lev) rfl
      have q2 := box_at (blk_below hB hbk) 2 (.int .i64 size) rfl
      have q3 := box_at (blk_below hB hbk) 3 (.slice Al nl cl) rfl
      have q4 := box_at (blk_below hB hbk) 4 (.slice Am nm cm) rfl
      go_simp
      exact hK.out _ _ rfl (Below.refl _ _)
    refine OpsOK.cons ?_ ?_
    · intro u W K hB hd hK
      have h0 := fact_val (dep_of hd 0 (by kernel_rfl) (by kernel_rfl)) (by decide)
      dsimp only [nth] at h0
      replace hK := hk_val hK (by decide) (by rfl)
      clear hd
      simp only [lay, Act.put, List.setIfInBounds_toArray, List.set_cons_zero, List.set_cons_succ, h0] at hK ⊢
      go_simp
      first
        | (go_at_call 7; (with_reducible refine (maytable_any num lev size Al nl cl least Am nm cm most W (H1.out.below hB) (H2.out.below hB)).mono ?_); rintro e w1 ⟨rfl, hb⟩; rw [HT.out]; exact hK.out _ _ rfl hb)
        | (go_at_call 8; (with_reducible refine (refmaytable_any num lev size Al nl cl least Am nm cm most W (H1.out.below hB) (H2.out.below hB)).mono ?_); rintro e w1 ⟨rfl, hb⟩; rw [HT.out]; exact hK.out _ _ rfl hb)
        | (go_at_call 9; (with_reducible refine (awake_any _).mono ?_); rintro e w1 ⟨rfl, hb⟩; exact hK.out _ _ rfl hb)
    refine OpsOK.cons ?_ ?_
    · intro u W K hB hd hK
      replace hK := hk_val hK (by decide) (by rfl)
      clear hd
      simp only [lay, Act.put, List.setIfInBounds_toArray, List.set_cons_zero, List.set_cons_succ] at hK ⊢
      have q0 := box_at (blk_below hB hbk) 0 (.int .i64 num) rfl
      have q1 := box_at (blk_below hB hbk) 1 (.int .i64 lev) rfl
      have q2 := box_at (blk_below hB hbk) 2 (.int .i64 size) rfl
      have q3 := box_at (blk_below hB hbk) 3 (.slice Al nl cl) rfl
      have q4 := box_at (blk_below hB hbk) 4 (.slice Am nm cm) rfl
      go_simp
      exact hK.out _ _ rfl (Below.refl _ _)
    refine OpsOK.cons ?_ ?_
    · intro u W K hB hd hK
      have h1 := fact_val (dep_of hd 1 (by kernel_rfl) (by kernel_rfl)) (by decide)
      dsimp only [nth] at h1
      have h2 := fact_val (dep_of hd 2 (by kernel_rfl) (by kernel_rfl)) (by decide)
      dsimp only [nth] at h2
      replace hK := hk_val hK (by decide) (by rfl)
      clear hd
      simp only [lay, Act.put, List.setIfInBounds_toArray, List.set_cons_zero, List.set_cons_succ, h1, h2] at hK ⊢
      go_simp
      first
        | (go_at_call 7; (with_reducible refine (maytable_any num lev size Al nl cl least Am nm cm most W (H1.out.below hB) (H2.out.below hB)).mono ?_); rintro e w1 ⟨rfl, hb⟩; rw [HT.out]; exact hK.out _ _ rfl hb)
        | (go_at_call 8; (with_reducible refine (refmaytable_any num lev size Al nl cl least Am nm cm most W (H1.out.below hB) (H2.out.below hB)).mono ?_); rintro e w1 ⟨rfl, hb⟩; rw [HT.out]; exact hK.out _ _ rfl hb)
        | (go_at_call 9; (with_reducible refine (awake_any _).mono ?_); rintro e w1 ⟨rfl, hb⟩; exact hK.out _ _ rfl hb)
    refine OpsOK.cons ?_ ?_
    · intro u W K hB hd hK
      have h1 := fact_val (dep_of hd 1 (by kernel_rfl) (by kernel_rfl)) (by decide)
      dsimp only [nth] at h1
      have h3 := fact_val (dep_of hd 3 (by kernel_rfl) (by kernel_rfl)) (by decide)
      dsimp only [nth] at h3
      replace hK := hk_val hK (by decide) (by rfl)
      clear hd
      simp only [lay, Act.put, List.setIfInBounds_toArray, List.set_cons_zero, List.set_cons_succ, h1, h3] at hK ⊢
      go_simp
      exact hK.out _ _ rfl (Below.refl _ _)
    refine OpsOK.cons ?_ ?_
    · intro u W K hB hd hK
      have h3 := fact_val (dep_of hd 3 (by kernel_rfl) (by kernel_rfl)) (by decide)
      dsimp only [nth] at h3
      have h4 := fact_val (dep_of hd 4 (by kernel_rfl) (by kernel_rfl)) (by decide)
      dsimp only [nth] at h4
      replace hK := hk_val hK (by decide) (by rfl)
      clear hd
      simp only [lay, Act.put, List.setIfInBounds_toArray, List.set_cons_zero, List.set_cons_succ, h3, h4] at hK ⊢
      go_simp
      exact hK.out _ _ rfl (Below.refl _ _)
    refine OpsOK.cons ?_ ?_
    · intro u W K hB hd hK
      have h5 := fact_val (dep_of hd 5 (by kernel_rfl) (by kernel_rfl)) (by decide)
      dsimp only [nth] at h5
      replace hK := hk_val hK (by decide) (by rfl)
      clear hd
      simp only [lay, Act.put, List.setIfInBounds_toArray, List.set_cons_zero, List.set_cons_succ, h5] at hK ⊢
      go_simp
      first
        | (go_at_call 7; (with_reducible refine (maytable_any num lev size Al nl cl least Am nm cm most W (H1.out.below hB) (H2.out.below hB)).mono ?_); rintro e w1 ⟨rfl, hb⟩; rw [HT.out]; exact hK.out _ _ rfl hb)
        | (go_at_call 8; (with_reducible refine (refmaytable_any num lev size Al nl cl least Am nm cm most W (H1.out.below hB) (H2.out.below hB)).mono ?_); rintro e w1 ⟨rfl, hb⟩; rw [HT.out]; exact hK.out _ _ rfl hb)
        | (go_at_call 9; (with_reducible refine (awake_any _).mono ?_); rintro e w1 ⟨rfl, hb⟩; exact hK.out _ _ rfl hb)
    refine OpsOK.cons ?_ ?_
    · intro u W K hB hd hK
      have h5 := fact_val (dep_of hd 5 (by kernel_rfl) (by kernel_rfl)) (by decide)
      dsimp only [nth] at h5
      have h6 := fact_val (dep_of hd 6 (by kernel_rfl) (by kernel_rfl)) (by decide)
      dsimp only [nth] at h6
      replace hK := hk_val hK (by decide) (by rfl)
      clear hd
      simp only [lay, Act.put, List.setIfInBounds_toArray, List.set_cons_zero, List.set_cons_succ, h5, h6] at hK ⊢
      go_simp
      exact hK.out _ _ rfl (Below.refl _ _)
    refine OpsOK.cons ?_ ?_
    · intro u W K hB hd hK
      have h6 := fact_val (dep_of hd 6 (by kernel_rfl) (by kernel_rfl)) (by decide)
      dsimp only [nth] at h6
      have h7 := fact_val (dep_of hd 7 (by kernel_rfl) (by kernel_rfl)) (by decide)
      dsimp only [nth] at h7
      replace hK := hk_val hK (by decide) (by rfl)
      clear hd
      simp only [lay, Act.put, List.setIfInBounds_toArray, List.set_cons_zero, List.set_cons_succ, h6, h7] at hK ⊢
      go_simp
      exact hK.out _ _ rfl (Below.refl _ _)
    exact OpsOK.nil
  intro u W hB hf
  have h0 := fact_val (hf 0 (by decide) (by decide)) (by decide)
  dsimp only [nth] at h0
  have h1 := fact_val (hf 1 (by decide) (by decide)) (by decide)
  dsimp only [nth] at h1
  have h2 := fact_val (hf 2 (by decide) (by decide)) (by decide)
  dsimp only [nth] at h2
  have h3 := fact_val (hf 3 (by decide) (by decide)) (by decide)
  dsimp only [nth] at h3
  have h4 := fact_val (hf 4 (by decide) (by decide)) (by decide)
  dsimp only [nth] at h4
  have h5 := fact_val (hf 5 (by decide) (by decide)) (by decide)
  dsimp only [nth] at h5
  have h6 := fact_val (hf 6 (by decide) (by decide)) (by decide)
  dsimp only [nth] at h6
  have h7 := fact_val (hf 7 (by decide) (by decide)) (by decide)
  dsimp only [nth] at h7
  have h8 := fact_val (hf 8 (by decide) (by decide)) (by decide)
  dsimp only [nth] at h8
  clear hf
  simp only [lay, h0, h1, h2, h3, h4, h5, h6, h7, h8]
  clear h0 h1 h2 h3 h4 h5 h6 h7 h8
  go_wp2
  go_ret
  exact ⟨rfl, HB.out.trans (hB.mono HB.out.size)⟩
end Go.Proofs.Ythiolcccgiibhaa
