/- Layer 6: one byte as another one: the walk of the statement. -/
import Derived.Test.YtkcdjmipmpeedaaFrI
namespace Go.Proofs.Ytkcdjmipmpeedaa
open Go.RowKit
set_option linter.unusedVariables false
set_option linter.unusedSimpArgs false

theorem catF_set {xss : List (List UInt8)} {n k at_ : Nat} {y : UInt8} (hk : k ≤ n) (h : (catF xss k).length ≤ at_) : (catF xss n).set at_ y = catF xss k ++ ((catF xss n).set at_ y).drop (catF xss k).length := by
  conv => lhs; rw [← List.take_append_drop (catF xss k).length ((catF xss n).set at_ y)]
  congr 1
  rw [List.take_set_of_le h, catF_drop xss hk]
theorem OB.formN {w : World} {base : Nat} {v : Value} {xs : List UInt8} (h : OB w base v xs) (n : Nat) (hl : xs.length = n) (hn : 0 < n) : ∃ g cap, v = .slice (some ⟨g, 0, none⟩) n cap ∧ base ≤ g ∧ g < w.heap.size ∧ n ≤ cap := by
  subst hl
  exact h.form hn
/-- How many ends lie at or ahead of a place. -/
theorem ends_ahead (xss : List (List UInt8)) (n c : Nat) : ∃ k, k ≤ n ∧ (catF xss k).length ≤ c ∧ (k = n ∨ c < (catF xss (k + 1)).length) := whole_ones xss n c
theorem xor_u8_nat (a x : UInt8) : bits .xor .u8 (a.toNat : Int) (x.toNat : Int) = ((a ^^^ x).toNat : Int) := by
  have h := u8_xor_nat a.toNat x.toNat a.toNat_lt x.toNat_lt
  rw [h, UInt8.toNat_xor]
set_option maxHeartbeats 16000000 in
set_option maxRecDepth 100000 in
theorem FrameTells_walk (A : Option Addr) (n c : Nat) (xss : List (List UInt8)) (z x0 : Int) (w : World) (h : RBs w A n xss) (hc : n ≤ c) (hz : (Lit.int .i64 z).wf = true) (hx0 : (Lit.int .u8 x0).wf = true) :
    Calls Try.prog 7 #[.slice A n c, .int .i64 z, .int .u8 x0] w fun e w' => e = .returned (.bool true) ∧ Below w.heap.size w w' := by
  have hm64 := wf_i64 hz
  have hx8 := wf_u8 hx0
  obtain ⟨x, rfl⟩ : ∃ x : UInt8, x0 = (x.toNat : Int) := ⟨UInt8.ofNat x0.toNat, (UInt8.ofNat_back hx8.1 hx8.2).symm⟩
  clear hz hx0 hx8
  by_cases hf : Rows1 n xss
  · have hn20 := hf.1
    have hall := hf.2
    have hxl : xss.length = n := h.1
    obtain ⟨L, hL⟩ : ∃ L, (catF xss n).length = L := ⟨_, rfl⟩
    have hL2 := catF_len hall n (Nat.le_refl _)
    rw [hL] at hL2
    have HF := hid hf
    have HLL := hid hL
    by_cases hq : L = 0 ∨ x.toNat = 0
    · have hq2 : (L = 0 ∧ ((L : Int) == 0) = true) ∨ (((L : Int) == 0) = false ∧ ((x.toNat : Int) == 0) = true) := by
        by_cases h0 : L = 0
        · exact .inl ⟨h0, by rw [h0]; rfl⟩
        · rcases hq with h1 | h1
          · exact absurd h1 h0
          · exact .inr ⟨by rw [beq_eq_false_iff_ne]; omega, by rw [h1]; rfl⟩
      clear hf hall hL hq
      rcases hq2 with ⟨_, hq⟩ | ⟨hq1, hq⟩
      all_goals
        go_enter Try.func7, Try.ntmps7
        go_wp2_with (first
          | (go_at_call 17; (with_reducible refine (rows_yes A n c xss _ h HF.out).mono ?_); rintro e w1 ⟨v1, ve, rfl, hown1, hoi1, hb1⟩; obtain ⟨A1, c1, rfl, hr1, hc1⟩ := hown1.openN L HLL.out)
          | (go_at_call 10; (with_reducible refine (awake_any _).mono ?_); rintro e w6 ⟨rfl, hb6⟩))
        go_ret
        exact ⟨rfl, below_then hb1 hb6⟩
    · have hL0 : 0 < L := by omega
      have hz0 : ((L : Int) == 0) = false := by rw [beq_eq_false_iff_ne]; omega
      have hx0 : ((x.toNat : Int) == 0) = false := by rw [beq_eq_false_iff_ne]; omega
      obtain ⟨C, hCL, hE⟩ : ∃ C : Nat, C < L ∧ (wrap64 (z.tmod (L : Int) + (L : Int))).tmod (L : Int) = (C : Int) := by
        have h1 := Int.tmod_lt_of_pos z (show (0 : Int) < (L : Int) by omega)
        have h2 := Int.lt_tmod_of_pos z (show (0 : Int) < (L : Int) by omega)
        generalize z.tmod (L : Int) = t at *
        have e1 : wrap64 (t + (L : Int)) = t + (L : Int) := by unfold wrap64; omega
        rw [e1, Int.tmod_eq_emod_of_nonneg (by omega)]
        have h3 := Int.emod_nonneg (t + (L : Int)) (show (L : Int) ≠ 0 by omega)
        have h4 := Int.emod_lt_of_pos (t + (L : Int)) (show (0 : Int) < (L : Int) by omega)
        exact ⟨((t + (L : Int)) % (L : Int)).toNat, by omega, by omega⟩
      obtain ⟨m, hmn, hm1, hm2⟩ := whole_ones xss n C
      have hmn2 : m < n := by
        rcases Nat.lt_or_ge m n with h1 | h1
        · exact h1
        · have : m = n := by omega
          rw [this, hL] at hm1
          omega
      obtain ⟨y, hy⟩ : ∃ y : UInt8, y = elt 0 (catF xss n) C ^^^ x := ⟨_, rfl⟩
      have hyx : bits .xor .u8 ((bAt (catF xss n) C : Nat) : Int) (x.toNat : Int) = (y.toNat : Int) := by
        rw [hy]
        exact xor_u8_nat _ _
      obtain ⟨CS, hCS⟩ : ∃ CS, CS = (catF xss n).set C y := ⟨_, rfl⟩
      obtain ⟨recs, stop, hS⟩ : ∃ a b, scanB CS = (a, b) := ⟨_, _, rfl⟩
      have hCSl : CS.length = L := by rw [hCS, List.length_set, hL]
      have hrecl : recs.length ≤ L := by
        have := scan_len CS
        rw [hS, hCSl] at this
        exact this
      have hpre : recs.take m = xss.take m ∧ m ≤ recs.length := by
        have e := scan_cat hxl hall m (((catF xss n).set C y).drop (catF xss m).length) hmn
        rw [← catF_set hmn hm1, ← hCS, hS] at e
        have e1 := (Prod.mk.inj e).1
        have hl1 : (xss.take m).length = m := by rw [List.length_take]; omega
        rw [e1]
        exact ⟨List.take_left' hl1, by rw [List.length_append]; omega⟩
      have hcmp : ∀ i, i < n → ((catF xss (i + 1)).length ≤ C ↔ i + 1 ≤ m) := by
        intro i hi
        constructor
        · intro hle
          rcases Nat.lt_or_ge i m with h1 | h1
          · omega
          · rcases hm2 with h2 | h2
            · omega
            · have := catF_mono xss (show m + 1 ≤ i + 1 by omega)
              omega
        · intro hle
          have := catF_mono xss hle
          omega
      obtain ⟨r, hrl⟩ : ∃ r, recs.length = r := ⟨_, rfl⟩
      rw [hrl] at hrecl hpre
      have hmr := hpre.2
      have hmri : ¬ ((r : Int) < (m : Int)) := by omega
      have hmrn : ¬ r < m := by omega
      have HPRE := hid hpre.1
      have HRL := hid hrl
      have HS := hid hS
      have HCS := hid hCS
      have HCSL := hid hCSl
      have HCMP := hid hcmp
      have H := hid h
      have HXL := hid (show (xss.take m).length = m by rw [List.length_take]; omega)
      have HSELF := hid (sameB_self recs)
      have HSELF2 := hid (sameB_self (xss.take m))
      clear hf hall hxl hL hq hm1 hm2 hcmp h hy hCS hS hCSl hpre hrl
      go_enter Try.func7, Try.ntmps7
      go_wp2_with (first
        | (go_at_call 17; (with_reducible refine (rows_yes A n c xss _ H.out HF.out).mono ?_); rintro e w1 ⟨v1, ve, rfl, hown1, hoi1, hb1⟩; obtain ⟨A1, c1, rfl, hr1, hc1⟩ := hown1.openN L HLL.out; obtain ⟨Ae, ce, rfl, hce⟩ := hoi1.slice n (endsL_len _ _))
        | (at_builtin; refine wpB_append w1 _ w1.heap.size rfl (.tmp 44) (.tmp 45) rfl _ [] rfl (OB.empty _ _ (Nat.le_refl _)) A1 L c1 (catF xss n) rfl (hr1.alloc _) (by rw [HLL.out]; simp; omega) (below_alloc' (Below.refl _ _) _) (below_alloc' (Below.refl _ _) _).size ?_; intro v2 w2 hown2 hb2 _ _; rw [List.nil_append] at hown2; obtain ⟨g2, c2, rfl, hg2, hgs2, hc2⟩ := hown2.formN L HLL.out hL0; have k0 := hown2.cell (j := C) hCL; have f0 := hown2.frozen C))
      obtain ⟨W3, hW3⟩ : ∃ W, W = w2.setCell ⟨g2, C, none⟩ (.int .u8 (y.toNat : Int)) := ⟨_, rfl⟩
      rw [← hW3]
      have hown3 : OB W3 w1.heap.size (.slice (some ⟨g2, 0, none⟩) L c2) CS := by
        rw [hW3, HCS.out]
        exact hown2.set C y rfl
      have hb3 : Below w1.heap.size w1 W3 := by
        rw [hW3]
        exact hb2.setCell hg2 _
      have hoi3 := hoi1.below hb3
      have hr3 := hown3.rb.1
      clear hW3 hown2 hb2 k0 f0 hyx hE hz0 hx0 hown1 hr1
      go_loop [11] (fun i => ∃ k : Nat, k ≤ m ∧ i = .int .i64 k) (fun i => m - (intOf i).toNat)
      case atStart => exact ⟨0, Nat.zero_le _, rfl⟩
      case round =>
        obtain ⟨k, hk, rfl⟩ := hrel
        have hlt : k < n := by omega
        obtain ⟨g, d, e1, _, _, _⟩ := hoi3.form n (endsL_len _ _) (by omega)
        cases e1
        have hcl := hoi3.cell (endsL_len _ _) hlt
        rw [endsL_at hlt] at hcl
        have hcm := HCMP.out k hlt
        obtain ⟨X, hX⟩ : ∃ X, (catF xss (k + 1)).length = X := ⟨_, rfl⟩
        rw [hX] at hcl hcm
        by_cases hle : k + 1 ≤ m
        · have hXC : (X : Int) ≤ (C : Int) := by have := hcm.2 hle; omega
          clear hcm hX
          go_wp2
          go_round
          case rel => exact ⟨k + 1, by omega, by go_num⟩
          case measure => simp [intOf]; omega
        · have hXC : ¬ ((X : Int) ≤ (C : Int)) := by
            intro hh
            exact hle (hcm.1 (by omega))
          have hkm : k = m := by omega
          have HKM := hid hkm
          clear hcm hX hkm
          obtain ⟨c3, hsl3, hrs3, hc3⟩ := cutS_hi (A := A) (n := n) (c := c) hc (hi := m) hmn (m : Int) rfl
          have hrl3 := hrs3 _ _ (H.out.below (below_then hb1 hb3))
          clear hrs3
          have hkm2 : (k : Int) = (m : Int) := by have := HKM.out; omega
          obtain rfl : k = m := HKM.out
          clear hkm2
          go_wp2_with (go_at_call 13; (with_reducible refine (fscan_any (some ⟨g2, 0, none⟩) L c2 CS _ hr3 hc2 (by omega)).mono ?_); rintro e w4 ⟨v4, V4, rfl, hos4, hobs4, hb4⟩; rw [HS.out] at hobs4 ⊢; obtain ⟨A4, c4, rfl, hrs4, hc4⟩ := own_rows hos4 hobs4 r HRL.out (by omega))
          obtain ⟨c5, hsl5, hrs5, hc5⟩ := cutS_hi (A := A4) (n := r) (c := c4) hc4 (hi := k) hmr (k : Int) rfl
          have hrl5 := hrs5 _ _ hrs4
          rw [HPRE.out] at hrl5
          have hrl3' := hrl3.below hb4
          clear hrs5
          apply wp_region_txt [none, none, none, none, none, none, none, none, none, none, none, none, none, none, none, none, none, none, none, none, none, none, none, none, none, none, none, none, none, none, none, none, none, none, none, none, none, none, none, none, none, none, none, none, none, none, none, none, none, none, none, none, none, none, none, none, none, none, none, none, none, none, none, none, none, none, none, none, none, none, none, none, none, some 0, some 1, some 2, some 3, some 4, some 5, some 6, some 7, some 8, some 9, some 10, some 11, some 12, some 13, none, none, none, none, none, none, none, none, none, none, none, none, none, none, none, none] [] [] [_, _, _, _, _, _, _, _, _, _, _, _, _, _] [[], [], [], [], [], [], [], [], [], [], [], [], [], []]
          case hm => rfl
          case hs => rfl
          case hst => kernel_rfl
          case hput => exact OpsOK.cons (fun _ _ => rfl) (OpsOK.cons (fun _ _ => rfl) (OpsOK.cons (fun _ _ => rfl) (OpsOK.cons (fun _ _ => rfl) (OpsOK.cons (fun _ _ => rfl) (OpsOK.cons (fun _ _ => rfl) (OpsOK.cons (fun _ _ => rfl) (OpsOK.cons (fun _ _ => rfl) (OpsOK.cons (fun _ _ => rfl) (OpsOK.cons (fun _ _ => rfl) (OpsOK.cons (fun _ _ => rfl) (OpsOK.cons (fun _ _ => rfl) (OpsOK.cons (fun _ _ => rfl) (OpsOK.cons (fun _ _ => rfl) (OpsOK.nil))))))))))))))
          case hops =>
            refine OpsOK.cons ?_ ?_
            · intro u W K hB hd hK
              replace hK := hk_val hK (by decide) (by rfl)
              clear hd
              simp only [lay, Act.put, List.setIfInBounds_toArray, List.set_cons_zero, List.set_cons_succ] at hK ⊢
              go_simp
              exact hK.out _ _ rfl (Below.refl _ _)
            refine OpsOK.cons ?_ ?_
            · intro u W K hB hd hK
              have h0 := fact_val (dep_of hd 0 (by kernel_rfl) (by kernel_rfl)) (by decide)
              dsimp only [nth] at h0
              replace hK := hk_val hK (by decide) (by rfl)
              clear hd
              simp only [lay, Act.put, List.setIfInBounds_toArray, List.set_cons_zero, List.set_cons_succ, h0] at hK ⊢
              go_simp
              exact hK.out _ _ rfl (Below.refl _ _)
            refine OpsOK.cons ?_ ?_
            · intro u W K hB hd hK
              replace hK := hk_val hK (by decide) (by rfl)
              clear hd
              simp only [lay, Act.put, List.setIfInBounds_toArray, List.set_cons_zero, List.set_cons_succ] at hK ⊢
              go_simp
              exact hK.out _ _ rfl (Below.refl _ _)
            refine OpsOK.cons ?_ ?_
            · intro u W K hB hd hK
              have h1 := fact_val (dep_of hd 1 (by kernel_rfl) (by kernel_rfl)) (by decide)
              dsimp only [nth] at h1
              have h2 := fact_val (dep_of hd 2 (by kernel_rfl) (by kernel_rfl)) (by decide)
              dsimp only [nth] at h2
              replace hK := hk_val hK (by decide) (by rfl)
              clear hd
              simp only [lay, Act.put, List.setIfInBounds_toArray, List.set_cons_zero, List.set_cons_succ, h1, h2] at hK ⊢
              go_simp
              exact hK.out _ _ rfl (Below.refl _ _)
            refine OpsOK.cons ?_ ?_
            · intro u W K hB hd hK
              have h3 := fact_val (dep_of hd 3 (by kernel_rfl) (by kernel_rfl)) (by decide)
              dsimp only [nth] at h3
              replace hK := hk_val hK (by decide) (by rfl)
              clear hd
              simp only [lay, Act.put, List.setIfInBounds_toArray, List.set_cons_zero, List.set_cons_succ, h3] at hK ⊢
              go_simp
              exact hK.out _ _ rfl (Below.refl _ _)
            refine OpsOK.cons ?_ ?_
            · intro u W K hB hd hK
              have h4 := fact_val (dep_of hd 4 (by kernel_rfl) (by kernel_rfl)) (by decide)
              dsimp only [nth] at h4
              replace hK := hk_val hK (by decide) (by rfl)
              clear hd
              simp only [lay, Act.put, List.setIfInBounds_toArray, List.set_cons_zero, List.set_cons_succ, h4] at hK ⊢
              go_simp
              exact hK.out _ _ rfl (Below.refl _ _)
            refine OpsOK.cons ?_ ?_
            · intro u W K hB hd hK
              have h4 := fact_val (dep_of hd 4 (by kernel_rfl) (by kernel_rfl)) (by decide)
              dsimp only [nth] at h4
              replace hK := hk_val hK (by decide) (by rfl)
              clear hd
              simp only [lay, Act.put, List.setIfInBounds_toArray, List.set_cons_zero, List.set_cons_succ, h4] at hK ⊢
              go_simp
              exact hK.out _ _ rfl (Below.refl _ _)
            refine OpsOK.cons ?_ ?_
            · intro u W K hB hd hK
              have h4 := fact_val (dep_of hd 4 (by kernel_rfl) (by kernel_rfl)) (by decide)
              dsimp only [nth] at h4
              have h5 := fact_val (dep_of hd 5 (by kernel_rfl) (by kernel_rfl)) (by decide)
              dsimp only [nth] at h5
              have h6 := fact_val (dep_of hd 6 (by kernel_rfl) (by kernel_rfl)) (by decide)
              dsimp only [nth] at h6
              replace hK := hk_val hK (by decide) (by rfl)
              clear hd
              simp only [lay, Act.put, List.setIfInBounds_toArray, List.set_cons_zero, List.set_cons_succ, h4, h5, h6] at hK ⊢
              go_simp
              exact hK.out _ _ rfl (Below.refl _ _)
            refine OpsOK.cons ?_ ?_
            · intro u W K hB hd hK
              have h4 := fact_val (dep_of hd 4 (by kernel_rfl) (by kernel_rfl)) (by decide)
              dsimp only [nth] at h4
              replace hK := hk_val hK (by decide) (by rfl)
              clear hd
              simp only [lay, Act.put, List.setIfInBounds_toArray, List.set_cons_zero, List.set_cons_succ, h4] at hK ⊢
              go_simp
              exact hK.out _ _ rfl (Below.refl _ _)
            refine OpsOK.cons ?_ ?_
            · intro u W K hB hd hK
              have h4 := fact_val (dep_of hd 4 (by kernel_rfl) (by kernel_rfl)) (by decide)
              dsimp only [nth] at h4
              replace hK := hk_val hK (by decide) (by rfl)
              clear hd
              simp only [lay, Act.put, List.setIfInBounds_toArray, List.set_cons_zero, List.set_cons_succ, h4] at hK ⊢
              go_simp
              exact hK.out _ _ rfl (Below.refl _ _)
            refine OpsOK.cons ?_ ?_
            · intro u W K hB hd hK
              have h4 := fact_val (dep_of hd 4 (by kernel_rfl) (by kernel_rfl)) (by decide)
              dsimp only [nth] at h4
              have h8 := fact_val (dep_of hd 8 (by kernel_rfl) (by kernel_rfl)) (by decide)
              dsimp only [nth] at h8
              have h9 := fact_val (dep_of hd 9 (by kernel_rfl) (by kernel_rfl)) (by decide)
              dsimp only [nth] at h9
              replace hK := hk_val hK (by decide) (by rfl)
              clear hd
              simp only [lay, Act.put, List.setIfInBounds_toArray, List.set_cons_zero, List.set_cons_succ, h4, h8, h9] at hK ⊢
              go_simp
              exact hK.out _ _ rfl (Below.refl _ _)
            refine OpsOK.cons ?_ ?_
            · intro u W K hB hd hK
              have h4 := fact_val (dep_of hd 4 (by kernel_rfl) (by kernel_rfl)) (by decide)
              dsimp only [nth] at h4
              have h7 := fact_val (dep_of hd 7 (by kernel_rfl) (by kernel_rfl)) (by decide)
              dsimp only [nth] at h7
              have h10 := fact_val (dep_of hd 10 (by kernel_rfl) (by kernel_rfl)) (by decide)
              dsimp only [nth] at h10
              replace hK := hk_val hK (by decide) (by rfl)
              clear hd
              simp only [lay, Act.put, List.setIfInBounds_toArray, List.set_cons_zero, List.set_cons_succ, h4, h7, h10] at hK ⊢
              go_simp
              first
                | (go_at_call 15; (with_reducible refine (same_any A4 k c5 (xss.take k) A k c3 (xss.take k) _ (hrl5.below hB) (hrl3'.below hB)).mono ?_); rintro e w5 ⟨rfl, hb5⟩; rw [HSELF2.out]; exact hK.out _ _ rfl hb5)
            refine OpsOK.cons ?_ ?_
            · intro u W K hB hd hK
              have h4 := fact_val (dep_of hd 4 (by kernel_rfl) (by kernel_rfl)) (by decide)
              dsimp only [nth] at h4
              have h11 := fact_val (dep_of hd 11 (by kernel_rfl) (by kernel_rfl)) (by decide)
              dsimp only [nth] at h11
              replace hK := hk_val hK (by decide) (by rfl)
              clear hd
              simp only [lay, Act.put, List.setIfInBounds_toArray, List.set_cons_zero, List.set_cons_succ, h4, h11] at hK ⊢
              go_simp
              exact hK.out _ _ rfl (Below.refl _ _)
            refine OpsOK.cons ?_ ?_
            · intro u W K hB hd hK
              have h4 := fact_val (dep_of hd 4 (by kernel_rfl) (by kernel_rfl)) (by decide)
              dsimp only [nth] at h4
              have h12 := fact_val (dep_of hd 12 (by kernel_rfl) (by kernel_rfl)) (by decide)
              dsimp only [nth] at h12
              replace hK := hk_val hK (by decide) (by rfl)
              clear hd
              simp only [lay, Act.put, List.setIfInBounds_toArray, List.set_cons_zero, List.set_cons_succ, h4, h12] at hK ⊢
              go_simp
              exact hK.out _ _ rfl (Below.refl _ _)
            exact OpsOK.nil
          intro u W hB hf
          have h0 := fact_val (hf 0 (by decide) (by decide)) (by decide)
          dsimp only [nth] at h0
          have h1 := fact_val (hf 1 (by decide) (by decide)) (by decide)
          dsimp only [nth] at h1
          have h2 := fact_val (hf 2 (by decide) (by decide)) (by decide)
          dsimp only [nth] at h2
          have h3 := fact_val (hf 3 (by decide) (by decide)) (by decide)
          dsimp only [nth] at h3
          have h4 := fact_val (hf 4 (by decide) (by decide)) (by decide)
          dsimp only [nth] at h4
          have h5 := fact_val (hf 5 (by decide) (by decide)) (by decide)
          dsimp only [nth] at h5
          have h6 := fact_val (hf 6 (by decide) (by decide)) (by decide)
          dsimp only [nth] at h6
          have h7 := fact_val (hf 7 (by decide) (by decide)) (by decide)
          dsimp only [nth] at h7
          have h8 := fact_val (hf 8 (by decide) (by decide)) (by decide)
          dsimp only [nth] at h8
          have h9 := fact_val (hf 9 (by decide) (by decide)) (by decide)
          dsimp only [nth] at h9
          have h10 := fact_val (hf 10 (by decide) (by decide)) (by decide)
          dsimp only [nth] at h10
          have h11 := fact_val (hf 11 (by decide) (by decide)) (by decide)
          dsimp only [nth] at h11
          have h12 := fact_val (hf 12 (by decide) (by decide)) (by decide)
          dsimp only [nth] at h12
          have h13 := fact_val (hf 13 (by decide) (by decide)) (by decide)
          dsimp only [nth] at h13
          clear hf
          simp only [lay, h0, h1, h2, h3, h4, h5, h6, h7, h8, h9, h10, h11, h12, h13]
          clear h0 h1 h2 h3 h4 h5 h6 h7 h8 h9 h10 h11 h12 h13
          go_wp2_with (first
            | (go_at_call 14; (with_reducible refine (refscan_any (some ⟨g2, 0, none⟩) L c2 CS _ (hr3.below (below_then hb4 hB)) hc2 (by omega)).mono ?_); rintro e w6 ⟨v6, V6, rfl, hos6, hobs6, hb6⟩; rw [HS.out] at hobs6 ⊢; obtain ⟨A6, c6, rfl, hrs6, hc6⟩ := own_rows hos6 hobs6 r HRL.out (by omega))
            | (go_at_call 15; (with_reducible refine (same_any A4 r c4 recs A6 r c6 recs _ (hrs4.below (below_then hB hb6)) hrs6).mono ?_); rintro e w7 ⟨rfl, hb7⟩; rw [HSELF.out])
            | (go_at_call 10; (with_reducible refine (awake_any _).mono ?_); rintro e w8 ⟨rfl, hb8⟩))
          go_ret
          exact ⟨rfl, below_then (below_then (below_then (below_then (below_then (below_then hb1 hb3) hb4) hB) hb6) hb7) hb8⟩
  · have HF := hid hf
    clear hf
    go_enter Try.func7, Try.ntmps7
    go_wp2_with (first
      | (go_at_call 17; (with_reducible refine (rows_no A n c xss _ h HF.out).mono ?_); rintro e w1 ⟨rfl, hb1⟩)
      | (go_at_call 10; (with_reducible refine (awake_any _).mono ?_); rintro e w4 ⟨rfl, hb4⟩))
    go_ret
    exact ⟨rfl, below_then hb1 hb4⟩
end Go.Proofs.Ytkcdjmipmpeedaa
