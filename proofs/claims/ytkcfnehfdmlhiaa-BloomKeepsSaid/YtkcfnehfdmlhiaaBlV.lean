/- Layer 10: the filter of any keys: the walk of the statement. -/
import Derived.Test.YtkcfnehfdmlhiaaBlU
namespace Go.Proofs.Ytkcfnehfdmlhiaa
open Go.RowKit
set_option linter.unusedVariables false
set_option linter.unusedSimpArgs false

def Few (n : Nat) (xss : List (List UInt8)) : Prop := n ≤ 200 ∧ ∀ j, j < n → (elt [] xss j).length ≤ 2000
def fewB (n : Nat) (xss : List (List UInt8)) : Bool := decide (n ≤ 200) && (List.range n).all fun j => decide ((elt [] xss j).length ≤ 2000)
theorem fewB_iff (n : Nat) (xss : List (List UInt8)) : fewB n xss = true ↔ Few n xss := by
  unfold fewB Few
  simp only [Bool.and_eq_true, decide_eq_true_eq, List.all_eq_true, List.mem_range]
theorem fewB_no {n : Nat} {xss : List (List UInt8)} (h : ¬ Few n xss) : fewB n xss = false := by
  cases hb : fewB n xss
  · rfl
  · exact absurd ((fewB_iff n xss).1 hb) h
theorem few_any (A : Option Addr) (n c : Nat) (xss : List (List UInt8)) (w : World) (h : RBs w A n xss) :
    Calls Try.prog 15 #[.slice A n c] w fun e w' => e = .returned (.bool (fewB n xss)) ∧ w = w' := by
  obtain ⟨B, hB⟩ : ∃ B, B = fewB n xss := ⟨_, rfl⟩
  rw [← hB]
  have HB := hid hB
  clear hB
  have hm := h.2.1
  have H := hid h
  clear h
  go_enter Try.func15, Try.ntmps15
  go_wp2
  go_loop [7] (fun i => ∃ k : Nat, k ≤ n ∧ i = .int .i64 k ∧ k ≤ 200 ∧ ∀ j, j < k → (elt [] xss j).length ≤ 2000) (fun i => n - (intOf i).toNat)
  case atStart => exact ⟨0, Nat.zero_le _, rfl, by omega, fun j hj => absurd hj (by omega)⟩
  case round =>
    obtain ⟨k, hk, rfl, hk2, hall⟩ := hrel
    have HA := hid hall
    clear hall
    by_cases hlt : k < n
    · obtain ⟨ad, rfl, Aj, nj, cj, hcell, hrb, hle⟩ := H.out.at_ hlt
      have hjl : (elt [] xss k).length = nj := hrb.1
      have hjm := hrb.2.1
      have HJ := hid hjl
      clear hjl
      by_cases h200 : 200 ≤ k
      · have hk200 : (200 : Int) ≤ (k : Int) := by omega
        go_wp2
        go_ret
        exact ⟨by rw [HB.out, fewB_no fun h => absurd h.1 (by omega)]; rfl, rfl⟩
      · have hk200 : ¬ ((200 : Int) ≤ (k : Int)) := by omega
        by_cases hbig : 2000 < nj
        · go_wp2
          go_ret
          exact ⟨by rw [HB.out, fewB_no fun h => absurd (h.2 k hlt) (by rw [HJ.out]; omega)]; rfl, rfl⟩
        · go_wp2
          go_round
          case rel =>
            refine ⟨k + 1, by omega, by go_num, by omega, fun j hj => ?_⟩
            by_cases hjk : j < k
            · exact HA.out j hjk
            · obtain rfl : j = k := by omega
              rw [HJ.out]; omega
          case measure => simp [intOf]; omega
    · obtain rfl : k = n := by omega
      go_wp2
      go_ret
      exact ⟨by rw [HB.out, (fewB_iff k xss).2 ⟨hk2, HA.out⟩]; rfl, rfl⟩

set_option maxHeartbeats 8000000 in
set_option maxRecDepth 100000 in
theorem BloomBuilds_walk (A : Option Addr) (n c : Nat) (xss : List (List UInt8)) (w : World) (h : RBs w A n xss) (hc : n ≤ c) :
    Calls Try.prog 5 #[.slice A n c] w fun e w' => e = .returned (.bool true) ∧ Below w.heap.size w w' := by
  by_cases hf : Few n xss
  · have HF := hid hf
    have hn : n ≤ 200 := hf.1
    clear hf
    obtain ⟨FB, hFB⟩ : ∃ F, F = filterB xss := ⟨_, rfl⟩
    have HFB := hid hFB
    clear hFB
    go_enter Try.func5, Try.ntmps5
    go_wp2_with (first
      | (go_at_call 15; (with_reducible refine (few_any A n c xss _ h).mono ?_); rintro e w1 ⟨rfl, rfl⟩; rw [(fewB_iff n xss).2 HF.out])
      | (go_at_call 16; (with_reducible refine (build_any A n c xss _ h (by omega)).mono ?_); rintro e w2 ⟨v2, rfl, hown2, hb2⟩; rw [← HFB.out] at hown2))
    have hq2 := h.below hb2
    apply wp_region_txt [none, none, some 13, none, none, none, none, none, none, none, none, none, none, none, some 0, some 1, some 2, some 3, some 4, some 5, some 6, some 7, some 8, some 9, some 10, some 11, some 12] [6] [] [_, _, _, _, _, _, undef, _, _, _, _, _, _, _] [[], [], [], [], [], [], _, [], [], [], [], [], [], []]
    case hm => rfl
    case hs => rfl
    case hst => kernel_rfl
    case hput => exact OpsOK.cons (fun _ _ => rfl) (OpsOK.cons (fun _ _ => rfl) (OpsOK.cons (fun _ _ => rfl) (OpsOK.cons (fun _ _ => rfl) (OpsOK.cons (fun _ _ => rfl) (OpsOK.cons (fun _ _ => rfl) (OpsOK.cons (fun _ _ => rfl) (OpsOK.cons (fun _ _ => rfl) (OpsOK.cons (fun _ _ => rfl) (OpsOK.cons (fun _ _ => rfl) (OpsOK.cons (fun _ _ => rfl) (OpsOK.cons (fun _ _ => rfl) (OpsOK.cons (fun _ _ => rfl) (OpsOK.cons (fun _ _ => rfl) (OpsOK.nil))))))))))))))
    case hops =>
      refine OpsOK.cons ?_ ?_
      · intro u W K hB hd hK
        replace hK := hk_val hK (by decide) (by rfl)
        clear hd
        simp only [lay, Act.put, List.setIfInBounds_toArray, List.set_cons_zero, List.set_cons_succ] at hK ⊢
        go_simp
        exact hK.out _ _ rfl (Below.refl _ _)
      refine OpsOK.cons ?_ ?_
      · intro u W K hB hd hK
        have h0 := fact_val (dep_of hd 0 (by kernel_rfl) (by kernel_rfl)) (by decide)
        dsimp only [nth] at h0
        replace hK := hk_val hK (by decide) (by rfl)
        clear hd
        simp only [lay, Act.put, List.setIfInBounds_toArray, List.set_cons_zero, List.set_cons_succ, h0] at hK ⊢
        go_simp
        exact hK.out _ _ rfl (Below.refl _ _)
      refine OpsOK.cons ?_ ?_
      · intro u W K hB hd hK
        have h1 := fact_val (dep_of hd 1 (by kernel_rfl) (by kernel_rfl)) (by decide)
        dsimp only [nth] at h1
        replace hK := hk_val hK (by decide) (by rfl)
        clear hd
        simp only [lay, Act.put, List.setIfInBounds_toArray, List.set_cons_zero, List.set_cons_succ, h1] at hK ⊢
        go_simp
        exact hK.out _ _ rfl (Below.refl _ _)
      refine OpsOK.cons ?_ ?_
      · intro u W K hB hd hK
        have h2 := fact_val (dep_of hd 2 (by kernel_rfl) (by kernel_rfl)) (by decide)
        dsimp only [nth] at h2
        replace hK := hk_val hK (by decide) (by rfl)
        clear hd
        simp only [lay, Act.put, List.setIfInBounds_toArray, List.set_cons_zero, List.set_cons_succ, h2] at hK ⊢
        go_simp
        exact hK.out _ _ rfl (Below.refl _ _)
      refine OpsOK.cons ?_ ?_
      · intro u W K hB hd hK
        have h2 := fact_val (dep_of hd 2 (by kernel_rfl) (by kernel_rfl)) (by decide)
        dsimp only [nth] at h2
        have h3 := fact_val (dep_of hd 3 (by kernel_rfl) (by kernel_rfl)) (by decide)
        dsimp only [nth] at h3
        replace hK := hk_val hK (by decide) (by rfl)
        clear hd
        simp only [lay, Act.put, List.setIfInBounds_toArray, List.set_cons_zero, List.set_cons_succ, h2, h3] at hK ⊢
        have hcv := OB.conv (hown2.below hB)
        go_simp
        exact hK.out _ _ rfl (Below.refl _ _)
      refine OpsOK.cons ?_ ?_
      · intro u W K hB hd hK
        have h2 := fact_val (dep_of hd 2 (by kernel_rfl) (by kernel_rfl)) (by decide)
        dsimp only [nth] at h2
        replace hK := hk_val hK (by decide) (by rfl)
        clear hd
        simp only [lay, Act.put, List.setIfInBounds_toArray, List.set_cons_zero, List.set_cons_succ, h2] at hK ⊢
        go_simp
        exact hK.out _ _ rfl (Below.refl _ _)
      refine OpsOK.cons ?_ ?_
      · intro u W K hB hd hK
        have h2 := fact_val (dep_of hd 2 (by kernel_rfl) (by kernel_rfl)) (by decide)
        dsimp only [nth] at h2
        have h5 := fact_val (dep_of hd 5 (by kernel_rfl) (by kernel_rfl)) (by decide)
        dsimp only [nth] at h5
        replace hK := hk_row hB hK (by decide) (by rfl)
        clear hd
        simp only [lay, Act.put, List.setIfInBounds_toArray, List.set_cons_zero, List.set_cons_succ, h2, h5] at hK ⊢
        go_simp
        first
          | (go_at_call 17; (with_reducible refine (filter_any A n c xss _ (hq2.below hB) (by omega)).mono ?_); rintro e w1 ⟨v1, rfl, hown, hb⟩; rw [← HFB.out] at hown; exact hK.out _ _ hown hb)
          | (go_at_call 12; (with_reducible refine (awake_any _).mono ?_); rintro e w1 ⟨rfl, rfl⟩; exact hK.out _ _ rfl (Below.refl _ _))
      refine OpsOK.cons ?_ ?_
      · intro u W K hB hd hK
        have h2 := fact_val (dep_of hd 2 (by kernel_rfl) (by kernel_rfl)) (by decide)
        dsimp only [nth] at h2
        have h6 := fact_row (dep_of hd 6 (by kernel_rfl) (by kernel_rfl)) (by decide)
        dsimp only [nth] at h6
        replace hK := hk_val hK (by decide) (by rfl)
        clear hd
        simp only [lay, Act.put, List.setIfInBounds_toArray, List.set_cons_zero, List.set_cons_succ, h2] at hK ⊢
        have hcv := OB.conv h6
        go_simp
        exact hK.out _ _ rfl (Below.refl _ _)
      refine OpsOK.cons ?_ ?_
      · intro u W K hB hd hK
        have h2 := fact_val (dep_of hd 2 (by kernel_rfl) (by kernel_rfl)) (by decide)
        dsimp only [nth] at h2
        have h4 := fact_val (dep_of hd 4 (by kernel_rfl) (by kernel_rfl)) (by decide)
        dsimp only [nth] at h4
        have h7 := fact_val (dep_of hd 7 (by kernel_rfl) (by kernel_rfl)) (by decide)
        dsimp only [nth] at h7
        replace hK := hk_val hK (by decide) (by rfl)
        clear hd
        simp only [lay, Act.put, List.setIfInBounds_toArray, List.set_cons_zero, List.set_cons_succ, h2, h4, h7] at hK ⊢
        go_simp
        exact hK.out _ _ rfl (Below.refl _ _)
      refine OpsOK.cons ?_ ?_
      · intro u W K hB hd hK
        have h2 := fact_val (dep_of hd 2 (by kernel_rfl) (by kernel_rfl)) (by decide)
        dsimp only [nth] at h2
        have h8 := fact_val (dep_of hd 8 (by kernel_rfl) (by kernel_rfl)) (by decide)
        dsimp only [nth] at h8
        replace hK := hk_val hK (by decide) (by rfl)
        clear hd
        simp only [lay, Act.put, List.setIfInBounds_toArray, List.set_cons_zero, List.set_cons_succ, h2, h8] at hK ⊢
        go_simp
        exact hK.out _ _ rfl (Below.refl _ _)
      refine OpsOK.cons ?_ ?_
      · intro u W K hB hd hK
        have h6 := fact_row (dep_of hd 6 (by kernel_rfl) (by kernel_rfl)) (by decide)
        dsimp only [nth] at h6
        have h9 := fact_val (dep_of hd 9 (by kernel_rfl) (by kernel_rfl)) (by decide)
        dsimp only [nth] at h9
        replace hK := hk_val hK (by decide) (by rfl)
        clear hd
        simp only [lay, Act.put, List.setIfInBounds_toArray, List.set_cons_zero, List.set_cons_succ, h9] at hK ⊢
        go_simp
        exact hK.out _ _ rfl (Below.refl _ _)
      refine OpsOK.cons ?_ ?_
      · intro u W K hB hd hK
        have h10 := fact_val (dep_of hd 10 (by kernel_rfl) (by kernel_rfl)) (by decide)
        dsimp only [nth] at h10
        replace hK := hk_val hK (by decide) (by rfl)
        clear hd
        simp only [lay, Act.put, List.setIfInBounds_toArray, List.set_cons_zero, List.set_cons_succ, h10] at hK ⊢
        go_simp
        first
          | (go_at_call 17; (with_reducible refine (filter_any A n c xss _ (hq2.below hB) (by omega)).mono ?_); rintro e w1 ⟨v1, rfl, hown, hb⟩; rw [← HFB.out] at hown; exact hK.out _ _ hown hb)
          | (go_at_call 12; (with_reducible refine (awake_any _).mono ?_); rintro e w1 ⟨rfl, rfl⟩; exact hK.out _ _ rfl (Below.refl _ _))
      refine OpsOK.cons ?_ ?_
      · intro u W K hB hd hK
        have h10 := fact_val (dep_of hd 10 (by kernel_rfl) (by kernel_rfl)) (by decide)
        dsimp only [nth] at h10
        have h11 := fact_val (dep_of hd 11 (by kernel_rfl) (by kernel_rfl)) (by decide)
        dsimp only [nth] at h11
        replace hK := hk_val hK (by decide) (by rfl)
        clear hd
        simp only [lay, Act.put, List.setIfInBounds_toArray, List.set_cons_zero, List.set_cons_succ, h10, h11] at hK ⊢
        go_simp
        exact hK.out _ _ rfl (Below.refl _ _)
      refine OpsOK.cons ?_ ?_
      · intro u W K hB hd hK
        have h11 := fact_val (dep_of hd 11 (by kernel_rfl) (by kernel_rfl)) (by decide)
        dsimp only [nth] at h11
        have h12 := fact_val (dep_of hd 12 (by kernel_rfl) (by kernel_rfl)) (by decide)
        dsimp only [nth] at h12
        replace hK := hk_val hK (by decide) (by rfl)
        clear hd
        simp only [lay, Act.put, List.setIfInBounds_toArray, List.set_cons_zero, List.set_cons_succ, h11, h12] at hK ⊢
        go_simp
        exact hK.out _ _ rfl (Below.refl _ _)
      exact OpsOK.nil
    intro u W hB hf
    have h0 := fact_val (hf 0 (by decide) (by decide)) (by decide)
    dsimp only [nth] at h0
    have h1 := fact_val (hf 1 (by decide) (by decide)) (by decide)
    dsimp only [nth] at h1
    have h2 := fact_val (hf 2 (by decide) (by decide)) (by decide)
    dsimp only [nth] at h2
    have h3 := fact_val (hf 3 (by decide) (by decide)) (by decide)
    dsimp only [nth] at h3
    have h4 := fact_val (hf 4 (by decide) (by decide)) (by decide)
    dsimp only [nth] at h4
    have h5 := fact_val (hf 5 (by decide) (by decide)) (by decide)
    dsimp only [nth] at h5
    have h6 := fact_row (hf 6 (by decide) (by decide)) (by decide)
    dsimp only [nth] at h6
    have h7 := fact_val (hf 7 (by decide) (by decide)) (by decide)
    dsimp only [nth] at h7
    have h8 := fact_val (hf 8 (by decide) (by decide)) (by decide)
    dsimp only [nth] at h8
    have h9 := fact_val (hf 9 (by decide) (by decide)) (by decide)
    dsimp only [nth] at h9
    have h10 := fact_val (hf 10 (by decide) (by decide)) (by decide)
    dsimp only [nth] at h10
    have h11 := fact_val (hf 11 (by decide) (by decide)) (by decide)
    dsimp only [nth] at h11
    have h12 := fact_val (hf 12 (by decide) (by decide)) (by decide)
    dsimp only [nth] at h12
    have h13 := fact_val (hf 13 (by decide) (by decide)) (by decide)
    dsimp only [nth] at h13
    clear hf
    simp only [lay, h0, h1, h2, h3, h4, h5, h7, h8, h9, h10, h11, h12, h13]
    clear h0 h1 h2 h3 h4 h5 h7 h8 h9 h10 h11 h12 h13
    go_wp2
    go_ret
    exact ⟨rfl, below_then hb2 hB⟩
  · have HF := hid hf
    clear hf
    go_enter Try.func5, Try.ntmps5
    go_wp2_with (first
      | (go_at_call 15; (with_reducible refine (few_any A n c xss _ h).mono ?_); rintro e w1 ⟨rfl, rfl⟩; rw [fewB_no HF.out])
      | (go_at_call 12; (with_reducible refine (awake_any _).mono ?_); rintro e w4 ⟨rfl, rfl⟩))
    go_ret
    exact ⟨rfl, Below.refl _ _⟩
end Go.Proofs.Ytkcfnehfdmlhiaa
