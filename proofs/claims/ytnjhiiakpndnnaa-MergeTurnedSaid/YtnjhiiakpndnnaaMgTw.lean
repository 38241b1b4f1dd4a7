/- Layer 16's laws: MergeTurned. -/
import Derived.Test.YtnjhiiakpndnnaaMgTp
import Derived.Deep.RegionHeld3
namespace Go.Proofs.Ytnjhiiakpndnnaa
open Go.RowKit
set_option linter.unusedVariables false
set_option linter.unusedSimpArgs false

set_option maxHeartbeats 64000000 in
set_option maxRecDepth 200000 in
theorem MergeTurned_walk (A : Option Addr) (n c : Nat) (ess : List (List EntR)) (w : World) (h : REnss w A n ess) (hc : n ≤ c) :
    Calls Try.prog 6 #[.slice A n c] w fun e w' => e = .returned (.bool true) ∧ Below w.heap.size w w' := by
  have hmax := h.2.1
  have H := hid h
  clear h
  by_cases h20 : 20 < n
  · have hd20 : decide ((20 : Int) < (n : Int)) = true := decide_eq_true (by omega)
    go_enter Try.func6, Try.ntmps6
    go_wp2_with (first
      | (go_at_call 9; (with_reducible refine (light_any A n c ess _ H.out).mono ?_); rintro r w1 ⟨b, rfl, hlt, hb1⟩; clear hlt; cases b)
      | (go_at_call 10; (with_reducible refine (awake_any _).mono ?_); rintro r w9 ⟨rfl, hb9⟩))
    · go_ret
      exact ⟨rfl, below_then hb1 hb9⟩
    · go_ret
      exact ⟨rfl, below_then hb1 hb9⟩
  · have hd20 : decide ((20 : Int) < (n : Int)) = false := decide_eq_false (by omega)
    go_enter Try.func6, Try.ntmps6
    go_wp2_with (first
      | (go_at_call 9; (with_reducible refine (light_any A n c ess _ H.out).mono ?_); rintro r w1 ⟨b, rfl, hlt, hb1⟩; have HLt := hid hlt; clear hlt; cases b)
      | (go_at_call 10; (with_reducible refine (awake_any _).mono ?_); rintro r w9 ⟨rfl, hb9⟩)
      | (go_at_call 11; (with_reducible refine (sorted_fine A n c ess _ (H.out.below hb1) (HLt.out (by first | rfl | trivial))).mono ?_); rintro r w2 ⟨A2, c2, R2, rfl, hc2, hr2, hs2, hm2, ht2, hb2⟩; have HR2 := hid hr2; have HL2 := hid hr2.1; have HA2 : Hid (AllS R2.length R2) := hid (by rw [hr2.1]; exact hs2); have HM2 := hid hm2; have HT2 := hid ht2; clear hr2 hs2 hm2 ht2; have hB2 := below_then hb1 hb2))
    · go_ret
      exact ⟨rfl, below_then hb1 hb9⟩
    · go_loopw [4, 5, 29] (fun v s i wr => ∃ k S : Nat, k ≤ n ∧ i = .int .i64 k ∧ s = .int .i64 (S : Int) ∧ totR (R2.take k) = S ∧ BackJ w2 wr v R2 k) (fun v s i wr => n - (intOf i).toNat)
      case atStart => exact ⟨0, 0, Nat.zero_le _, rfl, rfl, by simp [totR], [], OV.nil _ _ _ _, RelV.nil, rfl, Below.refl _ _⟩
      case round =>
        obtain ⟨k, S, hk, rfl, rfl, hS, hBk⟩ := hrel
        by_cases hlt : k < n
        · obtain ⟨V, hV, hVr, hVl, hB⟩ := hBk
          obtain ⟨n1, hn1⟩ : ∃ n1 : Nat, (n : Int) - 1 = (n1 : Int) := ⟨n - 1, by omega⟩
          obtain ⟨m, hm1⟩ : ∃ m : Nat, (n1 : Int) - (k : Int) = (m : Int) := ⟨n - 1 - k, by omega⟩
          have hmn : m < n := by omega
          have hme : m = n - 1 - k := by omega
          obtain ⟨ad, rfl, Am, nm, cm, hcm, hrm, hnm⟩ := HR2.out.at_ hmn
          obtain ⟨ad', he, Ak, nk, ck, hck, hrk, hnk⟩ := HR2.out.at_ hlt
          injection he with he
          subst he
          have hcm2 := below_cell hB hcm
          have HCk := hid hck
          have hwm : IntKind.i64.wrap (m : Int) = (m : Int) := by rw [IntKind.wrap_i64]; omega
          have hwn : IntKind.i64.wrap (n1 : Int) = (n1 : Int) := by rw [IntKind.wrap_i64]; omega
          have hS2 : totR (R2.take (k + 1)) = S + nk := by rw [tot_take (by rw [HL2.out]; exact hlt), hS, hrk.1]
          have hS3 : S + nk ≤ 40000 := by have := tot_parts R2 (k + 1); have := HT2.out; omega
          have HS2 := hid hS2
          have HV := hid hV
          have HVr := hid hVr
          have HRm : Hid (REnts w2 Am nm (er R2 (R2.length - 1 - k))) := hid (by rw [HL2.out, ← hme]; exact hrm)
          clear hrm hrk hcm hck hS hS2 hV hVr hme
          go_wp2_with (at_builtin; go_loud (refine wpV_append1 22 27 _ 1 24 Try.underlying22 rowinfo rfl (by omega) w2 wr w2.heap.size rfl (.tmp 32) (.tmp 41) rfl u4 V rfl HV.out #[.slice Am nm cm] rfl (by intro u hu; simp only [List.mem_cons, List.not_mem_nil, or_false] at hu; subst hu; rfl) 1 _ (by first | rfl | simp) rfl (by simp only [maxLen]; omega) (by omega) hB hB.size ?_); intro v' w' hown' hB' hg' _; have hck2 := below_cell hB' HCk.out)
          go_roundw
          case rel => exact ⟨k + 1, S + nk, by omega, by go_num, by go_num, HS2.out, BackJ.step HVr.out hVl (by rw [HL2.out]; exact hlt) HRm.out hnm hown' hB'⟩
          case measure => simp [intOf]; omega
        · obtain rfl : k = n := by omega
          have hBb := hBk
          obtain ⟨V, _, _, _, hB⟩ := hBk
          obtain ⟨A8, c8, hv, hc8, hr8⟩ := hBb.reads HL2.out (by omega)
          subst hv
          have hSS : totR R2 = S := by rw [← hS, List.take_of_length_le (by rw [HL2.out]; exact Nat.le_refl _)]
          have HSS := hid hSS
          have hS4 : S ≤ 40000 := by have := HT2.out; omega
          have HSR : Hid (totR R2.reverse = S) := hid (by rw [tot_rev]; exact hSS)
          have HR8 := hid hr8
          have HRb := hid (HR2.out.below hB)
          clear hBb hS hSS hr8
          go_wp2_with (first
            | (go_at_call 12; (with_reducible refine (merge_len A2 k c2 R2 _ HRb.out HA2.out (by omega) HM2.out S HSS.out hS4).mono ?_); rintro r w3 ⟨A3, c3, o3, rfl, hm3, hc3, hr3, hb3⟩; have HM3 := hid hm3; have HR3 := hid hr3; clear hm3 hr3)
            | (go_at_call 12; (with_reducible refine (merge_len A8 k c8 R2.reverse _ (HR8.out.below hb3) HA2.out.rev (by omega) HM2.out.rev S HSR.out hS4).mono ?_); rintro r w4 ⟨A4, c4, o4, rfl, hm4, hc4, hr4, hb4⟩; have HTn := hid (turn_law HA2.out HM2.out HM3.out hm4); rw [HSS.out] at HTn; have HR4 := hid hr4; clear hm4 hr4; have hB34 := below_then hb3 hb4)
            | (go_at_call 15; (with_reducible refine (new_len A2 k c2 R2 _ (HRb.out.below hB34) HA2.out (by omega) HM2.out HT2.out HM3.out).mono ?_); rintro r w6 ⟨w5, A5, c5, rfl, hj5, hb5⟩; have HJ5 := hid hj5; clear hj5))
          go_loopw [90] (fun i wr => ∃ k : Nat, k ≤ S ∧ i = .int .i64 k ∧ IterJ w5 wr A5 c5 o3 k) (fun i wr => S - (intOf i).toNat)
          case atStart => exact ⟨0, Nat.zero_le _, rfl, HJ5.out⟩
          case round =>
            obtain ⟨k2, hk2, rfl, hj⟩ := hrel
            have HJ := hid hj
            have hB5r := hj.2.2.2.1
            clear hj HJ5
            have hB4r := below_then hb5 hB5r
            have hB3r := below_then hb4 hB4r
            have hBr := below_then hB2 (below_then hB (below_then hb3 hB3r))
            by_cases hl2 : k2 < S
            · have hsm := HTn.out.2.2.2.2.2 (elt noEnt o3 k2) (elt_mem (by rw [HTn.out.1]; exact hl2))
              have hal := HTn.out.2.2.1 k2 hl2
              obtain ⟨a3, rfl, hea⟩ := HR3.out.at_ hl2
              obtain ⟨a4, rfl, heb⟩ := HR4.out.at_ hl2
              have hB45 : Below w4.heap.size w4 w5 := hb5
              have hB35 := below_then hb4 hB45
              obtain ⟨Ak, na, ca, Av, ma, da, p0, p1, p2, p3, p4, p5, p6, _, _⟩ := hea.below hB35
              obtain ⟨Bk, nb, cb, Bv, mb, db, q0, q1, q2, q3, q4, q5, q6, _, _⟩ := heb.below hB45
              have HN := hid (next_any w5 wr A5 c5 o3 k2 HJ.out (by rw [HTn.out.1]; exact hl2) hsm)
              clear hea heb hsm
              by_cases hk0 : k2 = 0
              · subst hk0
                have ha3 : a3.add (0 * 5) = a3 := by cases a3; simp [Addr.add]
                have ha4 : a4.add (0 * 5) = a4 := by cases a4; simp [Addr.add]
                rw [ha3] at p0 p1 p2 p3 p4
                rw [ha4] at q0 q1 q2 q3 q4
                generalize elt noEnt o3 0 = x at *
                generalize elt noEnt o4 0 = y at *
                have HL := hid hal
                have HA := hid (⟨p5, p6⟩ : _ ∧ _)
                have HB := hid (⟨q5, q6⟩ : _ ∧ _)
                have HP := hid (⟨p0, p1, p2, p3, p4, q0, q1, q2, q3, q4⟩ : _ ∧ _ ∧ _ ∧ _ ∧ _ ∧ _ ∧ _ ∧ _ ∧ _ ∧ _)
                clear hal p0 p1 p2 p3 p4 q0 q1 q2 q3 q4 p5 p6 q5 q6
                go_wp2_with (go_at_call 16; (with_reducible refine HN.out.mono ?_); rintro r w7 ⟨Kk, nk, ck, Kv, nv, cv, rfl, hk7, hv7, hj7⟩; have HX7 := hid (⟨hk7, hv7, hj7⟩ : _ ∧ _ ∧ _); clear hk7 hv7 hj7)
                have hx8 := heap_alloc_new w7 (.cells #[.slice Kk nk ck, .int .i64 (eSeq x), .bool (eGone x), .int .i64 (eTil x), .slice Kv nv cv] 35)
                have hB78 := below_alloc' (Below.refl w7.heap.size w7) (.cells #[.slice Kk nk ck, .int .i64 (eSeq x), .bool (eGone x), .int .i64 (eTil x), .slice Kv nv cv] 35)
                generalize hW8 : w7.alloc (.cells #[.slice Kk nk ck, .int .i64 (eSeq x), .bool (eGone x), .int .i64 (eTil x), .slice Kv nv cv] 35) = W8 at *
                clear hW8
                have HJ8 := hid (HX7.out.2.2.below hB78)
                have HX := hid (⟨HX7.out.1.below hB78, HX7.out.2.1.below hB78⟩ : _ ∧ _)
                have hB58 := (HX7.out.2.2.below hB78).2.2.2.1
                generalize w7.heap.size = b at *
                have HSG : Hid (∀ w', Below W8.heap.size W8 w' → (Below W8.heap.size W8 w' ∧ w'.cell? ⟨b, 0, none⟩ = some (.slice Kk nk ck) ∧ w'.cell? ⟨b, 1, none⟩ = some (.int .i64 (eSeq x)) ∧ w'.cell? ⟨b, 2, none⟩ = some (.bool (eGone x)) ∧ w'.cell? ⟨b, 3, none⟩ = some (.int .i64 (eTil x)) ∧ w'.cell? ⟨b, 4, none⟩ = some (.slice Kv nv cv) ∧ w'.cell? a3 = some (.slice Ak na ca) ∧ w'.cell? ⟨a3.block, a3.off + 1, none⟩ = some (.int .i64 (eSeq x)) ∧ w'.cell? ⟨a3.block, a3.off + 2, none⟩ = some (.bool (eGone x)) ∧ w'.cell? ⟨a3.block, a3.off + 3, none⟩ = some (.int .i64 (eTil x)) ∧ w'.cell? ⟨a3.block, a3.off + 4, none⟩ = some (.slice Av ma da) ∧ w'.cell? a4 = some (.slice Bk nb cb) ∧ w'.cell? ⟨a4.block, a4.off + 1, none⟩ = some (.int .i64 (eSeq y)) ∧ w'.cell? ⟨a4.block, a4.off + 2, none⟩ = some (.bool (eGone y)) ∧ w'.cell? ⟨a4.block, a4.off + 3, none⟩ = some (.int .i64 (eTil y)) ∧ w'.cell? ⟨a4.block, a4.off + 4, none⟩ = some (.slice Bv mb db))) := hid (fun w' hb => ⟨hb, box_at (blk_below hb hx8) 0 _ rfl, box_at (blk_below hb hx8) 1 _ rfl, box_at (blk_below hb hx8) 2 _ rfl, box_at (blk_below hb hx8) 3 _ rfl, box_at (blk_below hb hx8) 4 _ rfl, below_cell (below_then hB58 hb) HP.out.1, below_cell (below_then hB58 hb) HP.out.2.1, below_cell (below_then hB58 hb) HP.out.2.2.1, below_cell (below_then hB58 hb) HP.out.2.2.2.1, below_cell (below_then hB58 hb) HP.out.2.2.2.2.1, below_cell (below_then hB58 hb) HP.out.2.2.2.2.2.1, below_cell (below_then hB58 hb) HP.out.2.2.2.2.2.2.1, below_cell (below_then hB58 hb) HP.out.2.2.2.2.2.2.2.1, below_cell (below_then hB58 hb) HP.out.2.2.2.2.2.2.2.2.1, below_cell (below_then hB58 hb) HP.out.2.2.2.2.2.2.2.2.2⟩)
                have hbd : Below W8.heap.size W8 W8.drew := below_drew (Below.refl _ _)
                clear hx8 hB78 HX7 HP
                obtain ⟨_, g0, g1, g2, g3, g4, g5, g6, g7, g8, g9, g10, g11, g12, g13, g14⟩ := HSG.out _ (Below.refl _ _)
                go_wp2
                apply wp_region_txt [none, none, none, none, none, none, none, none, none, none, none, none, none, none, none, none, none, none, none, none, none, none, none, none, none, none, none, none, none, none, none, none, none, none, none, none, none, none, none, none, none, none, none, none, none, none, none, none, none, none, none, none, none, none, none, none, none, none, none, none, none, none, none, none, none, none, none, none, none, none, none, none, none, none, none, none, none, none, none, none, none, none, none, none, none, none, none, none, none, none, none, none, none, none, none, none, none, none, some 0, some 1, some 2, some 3, some 4, some 5, some 6, some 7, some 8, some 9, some 10, some 11, some 12, some 13, some 14, some 15, some 16, some 17, some 18, some 19, some 20, some 21, some 22, some 23, some 24, some 25, some 26, some 27, some 28, some 29, some 30, some 31, some 32, some 33, some 34, some 35, some 36, some 37, some 38, some 39, none, none, none, none, none, none, none, none, none, none, none, none] [] [] [_, _, _, _, _, _, _, _, _, _, _, _, _, _, _, _, _, _, _, _, _, _, _, _, _, _, _, _, _, _, _, _, _, _, _, _, _, _, _, _] [[], [], [], [], [], [], [], [], [], [], [], [], [], [], [], [], [], [], [], [], [], [], [], [], [], [], [], [], [], [], [], [], [], [], [], [], [], [], [], []]
                case hm => rfl
                case hs => rfl
                case hst => kernel_rfl
                case hput => exact OpsOK.cons (fun _ _ => rfl) (OpsOK.cons (fun _ _ => rfl) (OpsOK.cons (fun _ _ => rfl) (OpsOK.cons (fun _ _ => rfl) (OpsOK.cons (fun _ _ => rfl) (OpsOK.cons (fun _ _ => rfl) (OpsOK.cons (fun _ _ => rfl) (OpsOK.cons (fun _ _ => rfl) (OpsOK.cons (fun _ _ => rfl) (OpsOK.cons (fun _ _ => rfl) (OpsOK.cons (fun _ _ => rfl) (OpsOK.cons (fun _ _ => rfl) (OpsOK.cons (fun _ _ => rfl) (OpsOK.cons (fun _ _ => rfl) (OpsOK.cons (fun _ _ => rfl) (OpsOK.cons (fun _ _ => rfl) (OpsOK.cons (fun _ _ => rfl) (OpsOK.cons (fun _ _ => rfl) (OpsOK.cons (fun _ _ => rfl) (OpsOK.cons (fun _ _ => rfl) (OpsOK.cons (fun _ _ => rfl) (OpsOK.cons (fun _ _ => rfl) (OpsOK.cons (fun _ _ => rfl) (OpsOK.cons (fun _ _ => rfl) (OpsOK.cons (fun _ _ => rfl) (OpsOK.cons (fun _ _ => rfl) (OpsOK.cons (fun _ _ => rfl) (OpsOK.cons (fun _ _ => rfl) (OpsOK.cons (fun _ _ => rfl) (OpsOK.cons (fun _ _ => rfl) (OpsOK.cons (fun _ _ => rfl) (OpsOK.cons (fun _ _ => rfl) (OpsOK.cons (fun _ _ => rfl) (OpsOK.cons (fun _ _ => rfl) (OpsOK.cons (fun _ _ => rfl) (OpsOK.cons (fun _ _ => rfl) (OpsOK.cons (fun _ _ => rfl) (OpsOK.cons (fun _ _ => rfl) (OpsOK.cons (fun _ _ => rfl) (OpsOK.cons (fun _ _ => rfl) (OpsOK.nil))))))))))))))))))))))))))))))))))))))))
                case hops =>
                  refine OpsOK.cons ?_ ?_
                  · intro u W K hB hd hK
                    replace hK := hk_val hK (by decide) (by rfl)
                    clear hd
                    simp only [lay, Act.put, List.setIfInBounds_toArray, List.set_cons_zero, List.set_cons_succ] at hK ⊢
                    go_simp
                    exact hK.out _ _ rfl (Below.refl _ _)
                  refine OpsOK.cons ?_ ?_
                  · intro u W K hB hd hK
                    have h0 := fact_val (dep_of hd 0 (by kernel_rfl) (by kernel_rfl)) (by decide)
                    dsimp only [nth] at h0
                    replace hK := hk_val hK (by decide) (by rfl)
                    clear hd
                    simp only [lay, Act.put, List.setIfInBounds_toArray, List.set_cons_zero, List.set_cons_succ, h0] at hK ⊢
                    go_simp
                    exact hK.out _ _ rfl (Below.refl _ _)
                  refine OpsOK.cons ?_ ?_
                  · intro u W K hB hd hK
                    have h1 := fact_val (dep_of hd 1 (by kernel_rfl) (by kernel_rfl)) (by decide)
                    dsimp only [nth] at h1
                    replace hK := hk_val hK (by decide) (by rfl)
                    clear hd
                    simp only [lay, Act.put, List.setIfInBounds_toArray, List.set_cons_zero, List.set_cons_succ, h1] at hK ⊢
                    go_simp
                    exact hK.out _ _ rfl (Below.refl _ _)
                  refine OpsOK.cons ?_ ?_
                  · intro u W K hB hd hK
                    have h2 := fact_val (dep_of hd 2 (by kernel_rfl) (by kernel_rfl)) (by decide)
                    dsimp only [nth] at h2
                    replace hK := hk_val hK (by decide) (by rfl)
                    clear hd
                    simp only [lay, Act.put, List.setIfInBounds_toArray, List.set_cons_zero, List.set_cons_succ, h2] at hK ⊢
                    have y0 := below_cell hB g0
                    have y1 := below_cell hB g1
                    have y2 := below_cell hB g2
                    have y3 := below_cell hB g3
                    have y4 := below_cell hB g4
                    go_simp
                    exact hK.out _ _ rfl (Below.refl _ _)
                  refine OpsOK.cons ?_ ?_
                  · intro u W K hB hd hK
                    have h2 := fact_val (dep_of hd 2 (by kernel_rfl) (by kernel_rfl)) (by decide)
                    dsimp only [nth] at h2
                    replace hK := hk_val hK (by decide) (by rfl)
                    clear hd
                    simp only [lay, Act.put, List.setIfInBounds_toArray, List.set_cons_zero, List.set_cons_succ, h2] at hK ⊢
                    go_simp
                    exact hK.out _ _ rfl (Below.refl _ _)
                  refine OpsOK.cons ?_ ?_
                  · intro u W K hB hd hK
                    have h2 := fact_val (dep_of hd 2 (by kernel_rfl) (by kernel_rfl)) (by decide)
                    dsimp only [nth] at h2
                    replace hK := hk_val hK (by decide) (by rfl)
                    clear hd
                    simp only [lay, Act.put, List.setIfInBounds_toArray, List.set_cons_zero, List.set_cons_succ, h2] at hK ⊢
                    go_simp
                    exact hK.out _ _ rfl (Below.refl _ _)
                  refine OpsOK.cons ?_ ?_
                  · intro u W K hB hd hK
                    have h2 := fact_val (dep_of hd 2 (by kernel_rfl) (by kernel_rfl)) (by decide)
                    dsimp only [nth] at h2
                    have h4 := fact_val (dep_of hd 4 (by kernel_rfl) (by kernel_rfl)) (by decide)
                    dsimp only [nth] at h4
                    have h5 := fact_val (dep_of hd 5 (by kernel_rfl) (by kernel_rfl)) (by decide)
                    dsimp only [nth] at h5
                    replace hK := hk_val hK (by decide) (by rfl)
                    clear hd
                    simp only [lay, Act.put, List.setIfInBounds_toArray, List.set_cons_zero, List.set_cons_succ, h2, h4, h5] at hK ⊢
                    go_simp
                    exact hK.out _ _ rfl (Below.refl _ _)
                  refine OpsOK.cons ?_ ?_
                  · intro u W K hB hd hK
                    have h2 := fact_val (dep_of hd 2 (by kernel_rfl) (by kernel_rfl)) (by decide)
                    dsimp only [nth] at h2
                    have h6 := fact_val (dep_of hd 6 (by kernel_rfl) (by kernel_rfl)) (by decide)
                    dsimp only [nth] at h6
                    replace hK := hk_val hK (by decide) (by rfl)
                    clear hd
                    simp only [lay, Act.put, List.setIfInBounds_toArray, List.set_cons_zero, List.set_cons_succ, h2, h6] at hK ⊢
                    have y0 := below_cell hB g5
                    have y1 := below_cell hB g6
                    have y2 := below_cell hB g7
                    have y3 := below_cell hB g8
                    have y4 := below_cell hB g9
                    go_simp
                    exact hK.out _ _ rfl (Below.refl _ _)
                  refine OpsOK.cons ?_ ?_
                  · intro u W K hB hd hK
                    have h2 := fact_val (dep_of hd 2 (by kernel_rfl) (by kernel_rfl)) (by decide)
                    dsimp only [nth] at h2
                    have h3 := fact_val (dep_of hd 3 (by kernel_rfl) (by kernel_rfl)) (by decide)
                    dsimp only [nth] at h3
                    have h7 := fact_val (dep_of hd 7 (by kernel_rfl) (by kernel_rfl)) (by decide)
                    dsimp only [nth] at h7
                    replace hK := hk_val hK (by decide) (by rfl)
                    clear hd
                    simp only [lay, Act.put, List.setIfInBounds_toArray, List.set_cons_zero, List.set_cons_succ, h2, h3, h7] at hK ⊢
                    go_simp
                    first
                      | (go_at_call 17; (with_reducible refine (sameentry_any Kk nk ck Kv nv cv Ak na ca Av ma da (eSeq x) (eGone x) (eTil x) (eKey x) (eVal x) W (HX.out.1.below hB) (HX.out.2.below hB) (HA.out.1.below (below_then hB58 hB)) (HA.out.2.below (below_then hB58 hB))).mono ?_); rintro r w9 ⟨rfl, hb⟩; exact hK.out _ _ rfl hb)
                      | (go_at_call 18; (with_reducible refine (refahead_any Ak na ca Av ma da x Bk nb cb Bv mb db y W (HA.out.1.below (below_then hB58 hB)) (HB.out.1.below (below_then hB58 hB))).mono ?_); rintro r w9 ⟨rfl, hb⟩; rw [HL.out]; exact hK.out _ _ rfl hb)
                      | exact hK.out _ _ rfl (Below.refl _ _)
                  refine OpsOK.cons ?_ ?_
                  · intro u W K hB hd hK
                    have h2 := fact_val (dep_of hd 2 (by kernel_rfl) (by kernel_rfl)) (by decide)
                    dsimp only [nth] at h2
                    have h8 := fact_val (dep_of hd 8 (by kernel_rfl) (by kernel_rfl)) (by decide)
                    dsimp only [nth] at h8
                    replace hK := hk_val hK (by decide) (by rfl)
                    clear hd
                    simp only [lay, Act.put, List.setIfInBounds_toArray, List.set_cons_zero, List.set_cons_succ, h2, h8] at hK ⊢
                    go_simp
                    exact hK.out _ _ rfl (Below.refl _ _)
                  refine OpsOK.cons ?_ ?_
                  · intro u W K hB hd hK
                    have h2 := fact_val (dep_of hd 2 (by kernel_rfl) (by kernel_rfl)) (by decide)
                    dsimp only [nth] at h2
                    have h9 := fact_val (dep_of hd 9 (by kernel_rfl) (by kernel_rfl)) (by decide)
                    dsimp only [nth] at h9
                    replace hK := hk_val hK (by decide) (by rfl)
                    clear hd
                    simp only [lay, Act.put, List.setIfInBounds_toArray, List.set_cons_zero, List.set_cons_succ, h2, h9] at hK ⊢
                    go_simp
                    exact hK.out _ _ rfl (Below.refl _ _)
                  refine OpsOK.cons ?_ ?_
                  · intro u W K hB hd hK
                    have h8 := fact_val (dep_of hd 8 (by kernel_rfl) (by kernel_rfl)) (by decide)
                    dsimp only [nth] at h8
                    have h10 := fact_val (dep_of hd 10 (by kernel_rfl) (by kernel_rfl)) (by decide)
                    dsimp only [nth] at h10
                    replace hK := hk_val hK (by decide) (by rfl)
                    clear hd
                    simp only [lay, Act.put, List.setIfInBounds_toArray, List.set_cons_zero, List.set_cons_succ, h8, h10] at hK ⊢
                    go_simp
                    exact hK.out _ _ rfl (Below.refl _ _)
                  refine OpsOK.cons ?_ ?_
                  · intro u W K hB hd hK
                    have h11 := fact_val (dep_of hd 11 (by kernel_rfl) (by kernel_rfl)) (by decide)
                    dsimp only [nth] at h11
                    replace hK := hk_val hK (by decide) (by rfl)
                    clear hd
                    simp only [lay, Act.put, List.setIfInBounds_toArray, List.set_cons_zero, List.set_cons_succ, h11] at hK ⊢
                    go_simp
                    exact hK.out _ _ rfl (Below.refl _ _)
                  refine OpsOK.cons ?_ ?_
                  · intro u W K hB hd hK
                    have h11 := fact_val (dep_of hd 11 (by kernel_rfl) (by kernel_rfl)) (by decide)
                    dsimp only [nth] at h11
                    replace hK := hk_val hK (by decide) (by rfl)
                    clear hd
                    simp only [lay, Act.put, List.setIfInBounds_toArray, List.set_cons_zero, List.set_cons_succ, h11] at hK ⊢
                    go_simp
                    exact hK.out _ _ rfl (Below.refl _ _)
                  refine OpsOK.cons ?_ ?_
                  · intro u W K hB hd hK
                    have h11 := fact_val (dep_of hd 11 (by kernel_rfl) (by kernel_rfl)) (by decide)
                    dsimp only [nth] at h11
                    have h12 := fact_val (dep_of hd 12 (by kernel_rfl) (by kernel_rfl)) (by decide)
                    dsimp only [nth] at h12
                    have h13 := fact_val (dep_of hd 13 (by kernel_rfl) (by kernel_rfl)) (by decide)
                    dsimp only [nth] at h13
                    replace hK := hk_val hK (by decide) (by rfl)
                    clear hd
                    simp only [lay, Act.put, List.setIfInBounds_toArray, List.set_cons_zero, List.set_cons_succ, h11, h12, h13] at hK ⊢
                    go_simp
                    exact hK.out _ _ rfl (Below.refl _ _)
                  refine OpsOK.cons ?_ ?_
                  · intro u W K hB hd hK
                    have h11 := fact_val (dep_of hd 11 (by kernel_rfl) (by kernel_rfl)) (by decide)
                    dsimp only [nth] at h11
                    have h14 := fact_val (dep_of hd 14 (by kernel_rfl) (by kernel_rfl)) (by decide)
                    dsimp only [nth] at h14
                    replace hK := hk_val hK (by decide) (by rfl)
                    clear hd
                    simp only [lay, Act.put, List.setIfInBounds_toArray, List.set_cons_zero, List.set_cons_succ, h11, h14] at hK ⊢
                    have y0 := below_cell hB g5
                    have y1 := below_cell hB g6
                    have y2 := below_cell hB g7
                    have y3 := below_cell hB g8
                    have y4 := below_cell hB g9
                    go_simp
                    exact hK.out _ _ rfl (Below.refl _ _)
                  refine OpsOK.cons ?_ ?_
                  · intro u W K hB hd hK
                    have h11 := fact_val (dep_of hd 11 (by kernel_rfl) (by kernel_rfl)) (by decide)
                    dsimp only [nth] at h11
                    replace hK := hk_val hK (by decide) (by rfl)
                    clear hd
                    simp only [lay, Act.put, List.setIfInBounds_toArray, List.set_cons_zero, List.set_cons_succ, h11] at hK ⊢
                    go_simp
                    exact hK.out _ _ rfl (Below.refl _ _)
                  refine OpsOK.cons ?_ ?_
                  · intro u W K hB hd hK
                    have h11 := fact_val (dep_of hd 11 (by kernel_rfl) (by kernel_rfl)) (by decide)
                    dsimp only [nth] at h11
                    replace hK := hk_val hK (by decide) (by rfl)
                    clear hd
                    simp only [lay, Act.put, List.setIfInBounds_toArray, List.set_cons_zero, List.set_cons_succ, h11] at hK ⊢
                    go_simp
                    exact hK.out _ _ rfl (Below.refl _ _)
                  refine OpsOK.cons ?_ ?_
                  · intro u W K hB hd hK
                    have h11 := fact_val (dep_of hd 11 (by kernel_rfl) (by kernel_rfl)) (by decide)
                    dsimp only [nth] at h11
                    have h16 := fact_val (dep_of hd 16 (by kernel_rfl) (by kernel_rfl)) (by decide)
                    dsimp only [nth] at h16
                    have h17 := fact_val (dep_of hd 17 (by kernel_rfl) (by kernel_rfl)) (by decide)
                    dsimp only [nth] at h17
                    replace hK := hk_val hK (by decide) (by rfl)
                    clear hd
                    simp only [lay, Act.put, List.setIfInBounds_toArray, List.set_cons_zero, List.set_cons_succ, h11, h16, h17] at hK ⊢
                    go_simp
                    exact hK.out _ _ rfl (Below.refl _ _)
                  refine OpsOK.cons ?_ ?_
                  · intro u W K hB hd hK
                    have h11 := fact_val (dep_of hd 11 (by kernel_rfl) (by kernel_rfl)) (by decide)
                    dsimp only [nth] at h11
                    have h18 := fact_val (dep_of hd 18 (by kernel_rfl) (by kernel_rfl)) (by decide)
                    dsimp only [nth] at h18
                    replace hK := hk_val hK (by decide) (by rfl)
                    clear hd
                    simp only [lay, Act.put, List.setIfInBounds_toArray, List.set_cons_zero, List.set_cons_succ, h11, h18] at hK ⊢
                    have y0 := below_cell hB g10
                    have y1 := below_cell hB g11
                    have y2 := below_cell hB g12
                    have y3 := below_cell hB g13
                    have y4 := below_cell hB g14
                    go_simp
                    exact hK.out _ _ rfl (Below.refl _ _)
                  refine OpsOK.cons ?_ ?_
                  · intro u W K hB hd hK
                    have h11 := fact_val (dep_of hd 11 (by kernel_rfl) (by kernel_rfl)) (by decide)
                    dsimp only [nth] at h11
                    have h15 := fact_val (dep_of hd 15 (by kernel_rfl) (by kernel_rfl)) (by decide)
                    dsimp only [nth] at h15
                    have h19 := fact_val (dep_of hd 19 (by kernel_rfl) (by kernel_rfl)) (by decide)
                    dsimp only [nth] at h19
                    replace hK := hk_val hK (by decide) (by rfl)
                    clear hd
                    simp only [lay, Act.put, List.setIfInBounds_toArray, List.set_cons_zero, List.set_cons_succ, h11, h15, h19] at hK ⊢
                    go_simp
                    first
                      | (go_at_call 17; (with_reducible refine (sameentry_any Kk nk ck Kv nv cv Ak na ca Av ma da (eSeq x) (eGone x) (eTil x) (eKey x) (eVal x) W (HX.out.1.below hB) (HX.out.2.below hB) (HA.out.1.below (below_then hB58 hB)) (HA.out.2.below (below_then hB58 hB))).mono ?_); rintro r w9 ⟨rfl, hb⟩; exact hK.out _ _ rfl hb)
                      | (go_at_call 18; (with_reducible refine (refahead_any Ak na ca Av ma da x Bk nb cb Bv mb db y W (HA.out.1.below (below_then hB58 hB)) (HB.out.1.below (below_then hB58 hB))).mono ?_); rintro r w9 ⟨rfl, hb⟩; rw [HL.out]; exact hK.out _ _ rfl hb)
                      | exact hK.out _ _ rfl (Below.refl _ _)
                  refine OpsOK.cons ?_ ?_
                  · intro u W K hB hd hK
                    have h11 := fact_val (dep_of hd 11 (by kernel_rfl) (by kernel_rfl)) (by decide)
                    dsimp only [nth] at h11
                    have h20 := fact_val (dep_of hd 20 (by kernel_rfl) (by kernel_rfl)) (by decide)
                    dsimp only [nth] at h20
                    replace hK := hk_val hK (by decide) (by rfl)
                    clear hd
                    simp only [lay, Act.put, List.setIfInBounds_toArray, List.set_cons_zero, List.set_cons_succ, h11, h20] at hK ⊢
                    go_simp
                    exact hK.out _ _ rfl (Below.refl _ _)
                  refine OpsOK.cons ?_ ?_
                  · intro u W K hB hd hK
                    have h11 := fact_val (dep_of hd 11 (by kernel_rfl) (by kernel_rfl)) (by decide)
                    dsimp only [nth] at h11
                    have h21 := fact_val (dep_of hd 21 (by kernel_rfl) (by kernel_rfl)) (by decide)
                    dsimp only [nth] at h21
                    replace hK := hk_val hK (by decide) (by rfl)
                    clear hd
                    simp only [lay, Act.put, List.setIfInBounds_toArray, List.set_cons_zero, List.set_cons_succ, h11, h21] at hK ⊢
                    go_simp
                    exact hK.out _ _ rfl (Below.refl _ _)
                  refine OpsOK.cons ?_ ?_
                  · intro u W K hB hd hK
                    have h20 := fact_val (dep_of hd 20 (by kernel_rfl) (by kernel_rfl)) (by decide)
                    dsimp only [nth] at h20
                    have h22 := fact_val (dep_of hd 22 (by kernel_rfl) (by kernel_rfl)) (by decide)
                    dsimp only [nth] at h22
                    replace hK := hk_val hK (by decide) (by rfl)
                    clear hd
                    simp only [lay, Act.put, List.setIfInBounds_toArray, List.set_cons_zero, List.set_cons_succ, h20, h22] at hK ⊢
                    go_simp
                    exact hK.out _ _ rfl (Below.refl _ _)
                  refine OpsOK.cons ?_ ?_
                  · intro u W K hB hd hK
                    have h23 := fact_val (dep_of hd 23 (by kernel_rfl) (by kernel_rfl)) (by decide)
                    dsimp only [nth] at h23
                    replace hK := hk_val hK (by decide) (by rfl)
                    clear hd
                    simp only [lay, Act.put, List.setIfInBounds_toArray, List.set_cons_zero, List.set_cons_succ, h23] at hK ⊢
                    go_simp
                    exact hK.out _ _ rfl (Below.refl _ _)
                  refine OpsOK.cons ?_ ?_
                  · intro u W K hB hd hK
                    have h23 := fact_val (dep_of hd 23 (by kernel_rfl) (by kernel_rfl)) (by decide)
                    dsimp only [nth] at h23
                    have h24 := fact_val (dep_of hd 24 (by kernel_rfl) (by kernel_rfl)) (by decide)
                    dsimp only [nth] at h24
                    replace hK := hk_val hK (by decide) (by rfl)
                    clear hd
                    simp only [lay, Act.put, List.setIfInBounds_toArray, List.set_cons_zero, List.set_cons_succ, h23, h24] at hK ⊢
                    go_simp
                    exact hK.out _ _ rfl (Below.refl _ _)
                  refine OpsOK.cons ?_ ?_
                  · intro u W K hB hd hK
                    have h23 := fact_val (dep_of hd 23 (by kernel_rfl) (by kernel_rfl)) (by decide)
                    dsimp only [nth] at h23
                    have h25 := fact_val (dep_of hd 25 (by kernel_rfl) (by kernel_rfl)) (by decide)
                    dsimp only [nth] at h25
                    replace hK := hk_val hK (by decide) (by rfl)
                    clear hd
                    simp only [lay, Act.put, List.setIfInBounds_toArray, List.set_cons_zero, List.set_cons_succ, h23, h25] at hK ⊢
                    go_simp
                    exact hK.out _ _ rfl (Below.refl _ _)
                  refine OpsOK.cons ?_ ?_
                  · intro u W K hB hd hK
                    have h26 := fact_val (dep_of hd 26 (by kernel_rfl) (by kernel_rfl)) (by decide)
                    dsimp only [nth] at h26
                    replace hK := hk_val hK (by decide) (by rfl)
                    clear hd
                    simp only [lay, Act.put, List.setIfInBounds_toArray, List.set_cons_zero, List.set_cons_succ, h26] at hK ⊢
                    go_simp
                    exact hK.out _ _ rfl (Below.refl _ _)
                  refine OpsOK.cons ?_ ?_
                  · intro u W K hB hd hK
                    have h26 := fact_val (dep_of hd 26 (by kernel_rfl) (by kernel_rfl)) (by decide)
                    dsimp only [nth] at h26
                    replace hK := hk_val hK (by decide) (by rfl)
                    clear hd
                    simp only [lay, Act.put, List.setIfInBounds_toArray, List.set_cons_zero, List.set_cons_succ, h26] at hK ⊢
                    go_simp
                    exact hK.out _ _ rfl (Below.refl _ _)
                  refine OpsOK.cons ?_ ?_
                  · intro u W K hB hd hK
                    have h26 := fact_val (dep_of hd 26 (by kernel_rfl) (by kernel_rfl)) (by decide)
                    dsimp only [nth] at h26
                    have h28 := fact_val (dep_of hd 28 (by kernel_rfl) (by kernel_rfl)) (by decide)
                    dsimp only [nth] at h28
                    replace hK := hk_val hK (by decide) (by rfl)
                    clear hd
                    simp only [lay, Act.put, List.setIfInBounds_toArray, List.set_cons_zero, List.set_cons_succ, h26, h28] at hK ⊢
                    go_simp
                    exact hK.out _ _ rfl (Below.refl _ _)
                  refine OpsOK.cons ?_ ?_
                  · intro u W K hB hd hK
                    have h26 := fact_val (dep_of hd 26 (by kernel_rfl) (by kernel_rfl)) (by decide)
                    dsimp only [nth] at h26
                    have h27 := fact_val (dep_of hd 27 (by kernel_rfl) (by kernel_rfl)) (by decide)
                    dsimp only [nth] at h27
                    have h29 := fact_val (dep_of hd 29 (by kernel_rfl) (by kernel_rfl)) (by decide)
                    dsimp only [nth] at h29
                    replace hK := hk_val hK (by decide) (by rfl)
                    clear hd
                    simp only [lay, Act.put, List.setIfInBounds_toArray, List.set_cons_zero, List.set_cons_succ, h26, h27, h29] at hK ⊢
                    go_simp
                    exact hK.out _ _ rfl (Below.refl _ _)
                  refine OpsOK.cons ?_ ?_
                  · intro u W K hB hd hK
                    have h26 := fact_val (dep_of hd 26 (by kernel_rfl) (by kernel_rfl)) (by decide)
                    dsimp only [nth] at h26
                    have h30 := fact_val (dep_of hd 30 (by kernel_rfl) (by kernel_rfl)) (by decide)
                    dsimp only [nth] at h30
                    replace hK := hk_val hK (by decide) (by rfl)
                    clear hd
                    simp only [lay, Act.put, List.setIfInBounds_toArray, List.set_cons_zero, List.set_cons_succ, h26, h30] at hK ⊢
                    go_simp
                    exact hK.out _ _ rfl (Below.refl _ _)
                  refine OpsOK.cons ?_ ?_
                  · intro u W K hB hd hK
                    have h26 := fact_val (dep_of hd 26 (by kernel_rfl) (by kernel_rfl)) (by decide)
                    dsimp only [nth] at h26
                    replace hK := hk_val hK (by decide) (by rfl)
                    clear hd
                    simp only [lay, Act.put, List.setIfInBounds_toArray, List.set_cons_zero, List.set_cons_succ, h26] at hK ⊢
                    go_simp
                    exact hK.out _ _ rfl (Below.refl _ _)
                  refine OpsOK.cons ?_ ?_
                  · intro u W K hB hd hK
                    have h26 := fact_val (dep_of hd 26 (by kernel_rfl) (by kernel_rfl)) (by decide)
                    dsimp only [nth] at h26
                    replace hK := hk_val hK (by decide) (by rfl)
                    clear hd
                    simp only [lay, Act.put, List.setIfInBounds_toArray, List.set_cons_zero, List.set_cons_succ, h26] at hK ⊢
                    go_simp
                    exact hK.out _ _ rfl (Below.refl _ _)
                  refine OpsOK.cons ?_ ?_
                  · intro u W K hB hd hK
                    have h26 := fact_val (dep_of hd 26 (by kernel_rfl) (by kernel_rfl)) (by decide)
                    dsimp only [nth] at h26
                    have h32 := fact_val (dep_of hd 32 (by kernel_rfl) (by kernel_rfl)) (by decide)
                    dsimp only [nth] at h32
                    have h33 := fact_val (dep_of hd 33 (by kernel_rfl) (by kernel_rfl)) (by decide)
                    dsimp only [nth] at h33
                    replace hK := hk_val hK (by decide) (by rfl)
                    clear hd
                    simp only [lay, Act.put, List.setIfInBounds_toArray, List.set_cons_zero, List.set_cons_succ, h26, h32, h33] at hK ⊢
                    go_simp
                    exact hK.out _ _ rfl (Below.refl _ _)
                  refine OpsOK.cons ?_ ?_
                  · intro u W K hB hd hK
                    have h26 := fact_val (dep_of hd 26 (by kernel_rfl) (by kernel_rfl)) (by decide)
                    dsimp only [nth] at h26
                    have h34 := fact_val (dep_of hd 34 (by kernel_rfl) (by kernel_rfl)) (by decide)
                    dsimp only [nth] at h34
                    replace hK := hk_val hK (by decide) (by rfl)
                    clear hd
                    simp only [lay, Act.put, List.setIfInBounds_toArray, List.set_cons_zero, List.set_cons_succ, h26, h34] at hK ⊢
                    go_simp
                    exact hK.out _ _ rfl (Below.refl _ _)
                  refine OpsOK.cons ?_ ?_
                  · intro u W K hB hd hK
                    have h26 := fact_val (dep_of hd 26 (by kernel_rfl) (by kernel_rfl)) (by decide)
                    dsimp only [nth] at h26
                    have h31 := fact_val (dep_of hd 31 (by kernel_rfl) (by kernel_rfl)) (by decide)
                    dsimp only [nth] at h31
                    have h35 := fact_val (dep_of hd 35 (by kernel_rfl) (by kernel_rfl)) (by decide)
                    dsimp only [nth] at h35
                    replace hK := hk_val hK (by decide) (by rfl)
                    clear hd
                    simp only [lay, Act.put, List.setIfInBounds_toArray, List.set_cons_zero, List.set_cons_succ, h26, h31, h35] at hK ⊢
                    go_simp
                    first
                      | (go_at_call 17; (with_reducible refine (sameentry_any Kk nk ck Kv nv cv Ak na ca Av ma da (eSeq x) (eGone x) (eTil x) (eKey x) (eVal x) W (HX.out.1.below hB) (HX.out.2.below hB) (HA.out.1.below (below_then hB58 hB)) (HA.out.2.below (below_then hB58 hB))).mono ?_); rintro r w9 ⟨rfl, hb⟩; exact hK.out _ _ rfl hb)
                      | (go_at_call 18; (with_reducible refine (refahead_any Ak na ca Av ma da x Bk nb cb Bv mb db y W (HA.out.1.below (below_then hB58 hB)) (HB.out.1.below (below_then hB58 hB))).mono ?_); rintro r w9 ⟨rfl, hb⟩; rw [HL.out]; exact hK.out _ _ rfl hb)
                      | exact hK.out _ _ rfl (Below.refl _ _)
                  refine OpsOK.cons ?_ ?_
                  · intro u W K hB hd hK
                    have h26 := fact_val (dep_of hd 26 (by kernel_rfl) (by kernel_rfl)) (by decide)
                    dsimp only [nth] at h26
                    have h36 := fact_val (dep_of hd 36 (by kernel_rfl) (by kernel_rfl)) (by decide)
                    dsimp only [nth] at h36
                    replace hK := hk_val hK (by decide) (by rfl)
                    clear hd
                    simp only [lay, Act.put, List.setIfInBounds_toArray, List.set_cons_zero, List.set_cons_succ, h26, h36] at hK ⊢
                    go_simp
                    exact hK.out _ _ rfl (Below.refl _ _)
                  refine OpsOK.cons ?_ ?_
                  · intro u W K hB hd hK
                    have h23 := fact_val (dep_of hd 23 (by kernel_rfl) (by kernel_rfl)) (by decide)
                    dsimp only [nth] at h23
                    have h26 := fact_val (dep_of hd 26 (by kernel_rfl) (by kernel_rfl)) (by decide)
                    dsimp only [nth] at h26
                    have h37 := fact_val (dep_of hd 37 (by kernel_rfl) (by kernel_rfl)) (by decide)
                    dsimp only [nth] at h37
                    replace hK := hk_val hK (by decide) (by rfl)
                    clear hd
                    simp only [lay, Act.put, List.setIfInBounds_toArray, List.set_cons_zero, List.set_cons_succ, h23, h26, h37] at hK ⊢
                    go_simp
                    exact hK.out _ _ rfl (Below.refl _ _)
                  refine OpsOK.cons ?_ ?_
                  · intro u W K hB hd hK
                    have h23 := fact_val (dep_of hd 23 (by kernel_rfl) (by kernel_rfl)) (by decide)
                    dsimp only [nth] at h23
                    have h38 := fact_val (dep_of hd 38 (by kernel_rfl) (by kernel_rfl)) (by decide)
                    dsimp only [nth] at h38
                    replace hK := hk_val hK (by decide) (by rfl)
                    clear hd
                    simp only [lay, Act.put, List.setIfInBounds_toArray, List.set_cons_zero, List.set_cons_succ, h23, h38] at hK ⊢
                    go_simp
                    exact hK.out _ _ rfl (Below.refl _ _)
                  exact OpsOK.nil
                intro u W hB hf
                have h0 := fact_val (hf 0 (by decide) (by decide)) (by decide)
                dsimp only [nth] at h0
                have h1 := fact_val (hf 1 (by decide) (by decide)) (by decide)
                dsimp only [nth] at h1
                have h2 := fact_val (hf 2 (by decide) (by decide)) (by decide)
                dsimp only [nth] at h2
                have h3 := fact_val (hf 3 (by decide) (by decide)) (by decide)
                dsimp only [nth] at h3
                have h4 := fact_val (hf 4 (by decide) (by decide)) (by decide)
                dsimp only [nth] at h4
                have h5 := fact_val (hf 5 (by decide) (by decide)) (by decide)
                dsimp only [nth] at h5
                have h6 := fact_val (hf 6 (by decide) (by decide)) (by decide)
                dsimp only [nth] at h6
                have h7 := fact_val (hf 7 (by decide) (by decide)) (by decide)
                dsimp only [nth] at h7
                have h8 := fact_val (hf 8 (by decide) (by decide)) (by decide)
                dsimp only [nth] at h8
                have h9 := fact_val (hf 9 (by decide) (by decide)) (by decide)
                dsimp only [nth] at h9
                have h10 := fact_val (hf 10 (by decide) (by decide)) (by decide)
                dsimp only [nth] at h10
                have h11 := fact_val (hf 11 (by decide) (by decide)) (by decide)
                dsimp only [nth] at h11
                have h12 := fact_val (hf 12 (by decide) (by decide)) (by decide)
                dsimp only [nth] at h12
                have h13 := fact_val (hf 13 (by decide) (by decide)) (by decide)
                dsimp only [nth] at h13
                have h14 := fact_val (hf 14 (by decide) (by decide)) (by decide)
                dsimp only [nth] at h14
                have h15 := fact_val (hf 15 (by decide) (by decide)) (by decide)
                dsimp only [nth] at h15
                have h16 := fact_val (hf 16 (by decide) (by decide)) (by decide)
                dsimp only [nth] at h16
                have h17 := fact_val (hf 17 (by decide) (by decide)) (by decide)
                dsimp only [nth] at h17
                have h18 := fact_val (hf 18 (by decide) (by decide)) (by decide)
                dsimp only [nth] at h18
                have h19 := fact_val (hf 19 (by decide) (by decide)) (by decide)
                dsimp only [nth] at h19
                have h20 := fact_val (hf 20 (by decide) (by decide)) (by decide)
                dsimp only [nth] at h20
                have h21 := fact_val (hf 21 (by decide) (by decide)) (by decide)
                dsimp only [nth] at h21
                have h22 := fact_val (hf 22 (by decide) (by decide)) (by decide)
                dsimp only [nth] at h22
                have h23 := fact_val (hf 23 (by decide) (by decide)) (by decide)
                dsimp only [nth] at h23
                have h24 := fact_val (hf 24 (by decide) (by decide)) (by decide)
                dsimp only [nth] at h24
                have h25 := fact_val (hf 25 (by decide) (by decide)) (by decide)
                dsimp only [nth] at h25
                have h26 := fact_val (hf 26 (by decide) (by decide)) (by decide)
                dsimp only [nth] at h26
                have h27 := fact_val (hf 27 (by decide) (by decide)) (by decide)
                dsimp only [nth] at h27
                have h28 := fact_val (hf 28 (by decide) (by decide)) (by decide)
                dsimp only [nth] at h28
                have h29 := fact_val (hf 29 (by decide) (by decide)) (by decide)
                dsimp only [nth] at h29
                have h30 := fact_val (hf 30 (by decide) (by decide)) (by decide)
                dsimp only [nth] at h30
                have h31 := fact_val (hf 31 (by decide) (by decide)) (by decide)
                dsimp only [nth] at h31
                have h32 := fact_val (hf 32 (by decide) (by decide)) (by decide)
                dsimp only [nth] at h32
                have h33 := fact_val (hf 33 (by decide) (by decide)) (by decide)
                dsimp only [nth] at h33
                have h34 := fact_val (hf 34 (by decide) (by decide)) (by decide)
                dsimp only [nth] at h34
                have h35 := fact_val (hf 35 (by decide) (by decide)) (by decide)
                dsimp only [nth] at h35
                have h36 := fact_val (hf 36 (by decide) (by decide)) (by decide)
                dsimp only [nth] at h36
                have h37 := fact_val (hf 37 (by decide) (by decide)) (by decide)
                dsimp only [nth] at h37
                have h38 := fact_val (hf 38 (by decide) (by decide)) (by decide)
                dsimp only [nth] at h38
                have h39 := fact_val (hf 39 (by decide) (by decide)) (by decide)
                dsimp only [nth] at h39
                clear hf
                simp only [lay, h0, h1, h2, h3, h4, h5, h6, h7, h8, h9, h10, h11, h12, h13, h14, h15, h16, h17, h18, h19, h20, h21, h22, h23, h24, h25, h26, h27, h28, h29, h30, h31, h32, h33, h34, h35, h36, h37, h38, h39]
                clear h0 h1 h2 h3 h4 h5 h6 h7 h8 h9 h10 h11 h12 h13 h14 h15 h16 h17 h18 h19 h20 h21 h22 h23 h24 h25 h26 h27 h28 h29 h30 h31 h32 h33 h34 h35 h36 h37 h38 h39
                go_wp2
                go_roundw
                case rel => exact ⟨0 + 1, by omega, by go_num, HJ8.out.below hB⟩
                case measure => simp [intOf]; omega
              · have hd0 : decide ((0 : Int) < (k2 : Int)) = true := decide_eq_true (by omega)
                have hd00 : (0 : Int) < (k2 : Int) := by omega
                have hd01 : 0 < k2 := by omega
                have hle := HTn.out.2.2.2.1 k2 (by omega) hl2
                obtain ⟨j, hj⟩ : ∃ j, k2 - 1 = j := ⟨_, rfl⟩
                have hkm : (k2 : Int) - 1 = (j : Int) := by omega
                have hws : IntKind.i64.wrap (j : Int) = (j : Int) := by rw [IntKind.wrap_i64]; omega
                have hjn : j < S := by omega
                rw [hj] at hle
                obtain ⟨a5, hae, hec⟩ := HR3.out.at_ hjn
                obtain rfl := Option.some.inj hae
                obtain ⟨Ck, nc, cc, Cv, mc, dc, r0, r1, r2, r3, r4, r5, r6, _, _⟩ := hec.below hB35
                generalize elt noEnt o3 j = z at *
                clear hec hae hj
                generalize elt noEnt o3 k2 = x at *
                generalize elt noEnt o4 k2 = y at *
                obtain ⟨C, hC⟩ : ∃ C, aheadR z x = C := ⟨_, rfl⟩
                rw [hC] at hle
                have hd1 : decide ((0 : Int) < C) = false := decide_eq_false (by omega)
                have HC := hid hC
                clear hC
                have HL := hid hal
                have HA := hid (⟨p5, p6⟩ : _ ∧ _)
                have HB := hid (⟨q5, q6⟩ : _ ∧ _)
                have HD := hid (⟨r5, r6⟩ : _ ∧ _)
                have HP := hid (⟨p0, p1, p2, p3, p4, q0, q1, q2, q3, q4, r0, r1, r2, r3, r4⟩ : _ ∧ _ ∧ _ ∧ _ ∧ _ ∧ _ ∧ _ ∧ _ ∧ _ ∧ _ ∧ _ ∧ _ ∧ _ ∧ _ ∧ _)
                clear hal p0 p1 p2 p3 p4 q0 q1 q2 q3 q4 r0 r1 r2 r3 r4 p5 p6 q5 q6 r5 r6
                go_wp2_with (go_at_call 16; (with_reducible refine HN.out.mono ?_); rintro r w7 ⟨Kk, nk, ck, Kv, nv, cv, rfl, hk7, hv7, hj7⟩; have HX7 := hid (⟨hk7, hv7, hj7⟩ : _ ∧ _ ∧ _); clear hk7 hv7 hj7)
                have hx8 := heap_alloc_new w7 (.cells #[.slice Kk nk ck, .int .i64 (eSeq x), .bool (eGone x), .int .i64 (eTil x), .slice Kv nv cv] 35)
                have hB78 := below_alloc' (Below.refl w7.heap.size w7) (.cells #[.slice Kk nk ck, .int .i64 (eSeq x), .bool (eGone x), .int .i64 (eTil x), .slice Kv nv cv] 35)
                generalize hW8 : w7.alloc (.cells #[.slice Kk nk ck, .int .i64 (eSeq x), .bool (eGone x), .int .i64 (eTil x), .slice Kv nv cv] 35) = W8 at *
                clear hW8
                have HJ8 := hid (HX7.out.2.2.below hB78)
                have HX := hid (⟨HX7.out.1.below hB78, HX7.out.2.1.below hB78⟩ : _ ∧ _)
                have hB58 := (HX7.out.2.2.below hB78).2.2.2.1
                generalize w7.heap.size = b at *
                have HSG : Hid (∀ w', Below W8.heap.size W8 w' → (Below W8.heap.size W8 w' ∧ w'.cell? ⟨b, 0, none⟩ = some (.slice Kk nk ck) ∧ w'.cell? ⟨b, 1, none⟩ = some (.int .i64 (eSeq x)) ∧ w'.cell? ⟨b, 2, none⟩ = some (.bool (eGone x)) ∧ w'.cell? ⟨b, 3, none⟩ = some (.int .i64 (eTil x)) ∧ w'.cell? ⟨b, 4, none⟩ = some (.slice Kv nv cv) ∧ w'.cell? (a3.add (k2 * 5)) = some (.slice Ak na ca) ∧ w'.cell? ⟨(a3.add (k2 * 5)).block, (a3.add (k2 * 5)).off + 1, none⟩ = some (.int .i64 (eSeq x)) ∧ w'.cell? ⟨(a3.add (k2 * 5)).block, (a3.add (k2 * 5)).off + 2, none⟩ = some (.bool (eGone x)) ∧ w'.cell? ⟨(a3.add (k2 * 5)).block, (a3.add (k2 * 5)).off + 3, none⟩ = some (.int .i64 (eTil x)) ∧ w'.cell? ⟨(a3.add (k2 * 5)).block, (a3.add (k2 * 5)).off + 4, none⟩ = some (.slice Av ma da) ∧ w'.cell? (a4.add (k2 * 5)) = some (.slice Bk nb cb) ∧ w'.cell? ⟨(a4.add (k2 * 5)).block, (a4.add (k2 * 5)).off + 1, none⟩ = some (.int .i64 (eSeq y)) ∧ w'.cell? ⟨(a4.add (k2 * 5)).block, (a4.add (k2 * 5)).off + 2, none⟩ = some (.bool (eGone y)) ∧ w'.cell? ⟨(a4.add (k2 * 5)).block, (a4.add (k2 * 5)).off + 3, none⟩ = some (.int .i64 (eTil y)) ∧ w'.cell? ⟨(a4.add (k2 * 5)).block, (a4.add (k2 * 5)).off + 4, none⟩ = some (.slice Bv mb db) ∧ w'.cell? (a3.add (j * 5)) = some (.slice Ck nc cc) ∧ w'.cell? ⟨(a3.add (j * 5)).block, (a3.add (j * 5)).off + 1, none⟩ = some (.int .i64 (eSeq z)) ∧ w'.cell? ⟨(a3.add (j * 5)).block, (a3.add (j * 5)).off + 2, none⟩ = some (.bool (eGone z)) ∧ w'.cell? ⟨(a3.add (j * 5)).block, (a3.add (j * 5)).off + 3, none⟩ = some (.int .i64 (eTil z)) ∧ w'.cell? ⟨(a3.add (j * 5)).block, (a3.add (j * 5)).off + 4, none⟩ = some (.slice Cv mc dc))) := hid (fun w' hb => ⟨hb, box_at (blk_below hb hx8) 0 _ rfl, box_at (blk_below hb hx8) 1 _ rfl, box_at (blk_below hb hx8) 2 _ rfl, box_at (blk_below hb hx8) 3 _ rfl, box_at (blk_below hb hx8) 4 _ rfl, below_cell (below_then hB58 hb) HP.out.1, below_cell (below_then hB58 hb) HP.out.2.1, below_cell (below_then hB58 hb) HP.out.2.2.1, below_cell (below_then hB58 hb) HP.out.2.2.2.1, below_cell (below_then hB58 hb) HP.out.2.2.2.2.1, below_cell (below_then hB58 hb) HP.out.2.2.2.2.2.1, below_cell (below_then hB58 hb) HP.out.2.2.2.2.2.2.1, below_cell (below_then hB58 hb) HP.out.2.2.2.2.2.2.2.1, below_cell (below_then hB58 hb) HP.out.2.2.2.2.2.2.2.2.1, below_cell (below_then hB58 hb) HP.out.2.2.2.2.2.2.2.2.2.1, below_cell (below_then hB58 hb) HP.out.2.2.2.2.2.2.2.2.2.2.1, below_cell (below_then hB58 hb) HP.out.2.2.2.2.2.2.2.2.2.2.2.1, below_cell (below_then hB58 hb) HP.out.2.2.2.2.2.2.2.2.2.2.2.2.1, below_cell (below_then hB58 hb) HP.out.2.2.2.2.2.2.2.2.2.2.2.2.2.1, below_cell (below_then hB58 hb) HP.out.2.2.2.2.2.2.2.2.2.2.2.2.2.2⟩)
                have hbd : Below W8.heap.size W8 W8.drew := below_drew (Below.refl _ _)
                clear hx8 hB78 HX7 HP
                obtain ⟨_, g0, g1, g2, g3, g4, g5, g6, g7, g8, g9, g10, g11, g12, g13, g14, g15, g16, g17, g18, g19⟩ := HSG.out _ (Below.refl _ _)
                go_wp2
                apply wp_region_txt [none, none, none, none, none, none, none, none, none, none, none, none, none, none, none, none, none, none, none, none, none, none, none, none, none, none, none, none, none, none, none, none, none, none, none, none, none, none, none, none, none, none, none, none, none, none, none, none, none, none, none, none, none, none, none, none, none, none, none, none, none, none, none, none, none, none, none, none, none, none, none, none, none, none, none, none, none, none, none, none, none, none, none, none, none, none, none, none, none, none, none, none, none, none, none, none, none, none, some 0, some 1, some 2, some 3, some 4, some 5, some 6, some 7, some 8, some 9, some 10, some 11, some 12, some 13, some 14, some 15, some 16, some 17, some 18, some 19, some 20, some 21, some 22, some 23, some 24, some 25, some 26, some 27, some 28, some 29, some 30, some 31, some 32, some 33, some 34, some 35, some 36, some 37, some 38, some 39, none, none, none, none, none, none, none, none, none, none, none, none] [] [] [_, _, _, _, _, _, _, _, _, _, _, _, _, _, _, _, _, _, _, _, _, _, _, _, _, _, _, _, _, _, _, _, _, _, _, _, _, _, _, _] [[], [], [], [], [], [], [], [], [], [], [], [], [], [], [], [], [], [], [], [], [], [], [], [], [], [], [], [], [], [], [], [], [], [], [], [], [], [], [], []]
                case hm => rfl
                case hs => rfl
                case hst => kernel_rfl
                case hput => exact OpsOK.cons (fun _ _ => rfl) (OpsOK.cons (fun _ _ => rfl) (OpsOK.cons (fun _ _ => rfl) (OpsOK.cons (fun _ _ => rfl) (OpsOK.cons (fun _ _ => rfl) (OpsOK.cons (fun _ _ => rfl) (OpsOK.cons (fun _ _ => rfl) (OpsOK.cons (fun _ _ => rfl) (OpsOK.cons (fun _ _ => rfl) (OpsOK.cons (fun _ _ => rfl) (OpsOK.cons (fun _ _ => rfl) (OpsOK.cons (fun _ _ => rfl) (OpsOK.cons (fun _ _ => rfl) (OpsOK.cons (fun _ _ => rfl) (OpsOK.cons (fun _ _ => rfl) (OpsOK.cons (fun _ _ => rfl) (OpsOK.cons (fun _ _ => rfl) (OpsOK.cons (fun _ _ => rfl) (OpsOK.cons (fun _ _ => rfl) (OpsOK.cons (fun _ _ => rfl) (OpsOK.cons (fun _ _ => rfl) (OpsOK.cons (fun _ _ => rfl) (OpsOK.cons (fun _ _ => rfl) (OpsOK.cons (fun _ _ => rfl) (OpsOK.cons (fun _ _ => rfl) (OpsOK.cons (fun _ _ => rfl) (OpsOK.cons (fun _ _ => rfl) (OpsOK.cons (fun _ _ => rfl) (OpsOK.cons (fun _ _ => rfl) (OpsOK.cons (fun _ _ => rfl) (OpsOK.cons (fun _ _ => rfl) (OpsOK.cons (fun _ _ => rfl) (OpsOK.cons (fun _ _ => rfl) (OpsOK.cons (fun _ _ => rfl) (OpsOK.cons (fun _ _ => rfl) (OpsOK.cons (fun _ _ => rfl) (OpsOK.cons (fun _ _ => rfl) (OpsOK.cons (fun _ _ => rfl) (OpsOK.cons (fun _ _ => rfl) (OpsOK.cons (fun _ _ => rfl) (OpsOK.nil))))))))))))))))))))))))))))))))))))))))
                case hops =>
                  refine OpsOK.cons ?_ ?_
                  · intro u W K hB hd hK
                    replace hK := hk_val hK (by decide) (by rfl)
                    clear hd
                    simp only [lay, Act.put, List.setIfInBounds_toArray, List.set_cons_zero, List.set_cons_succ] at hK ⊢
                    go_simp
                    exact hK.out _ _ rfl (Below.refl _ _)
                  refine OpsOK.cons ?_ ?_
                  · intro u W K hB hd hK
                    have h0 := fact_val (dep_of hd 0 (by kernel_rfl) (by kernel_rfl)) (by decide)
                    dsimp only [nth] at h0
                    replace hK := hk_val hK (by decide) (by rfl)
                    clear hd
                    simp only [lay, Act.put, List.setIfInBounds_toArray, List.set_cons_zero, List.set_cons_succ, h0] at hK ⊢
                    go_simp
                    exact hK.out _ _ rfl (Below.refl _ _)
                  refine OpsOK.cons ?_ ?_
                  · intro u W K hB hd hK
                    have h1 := fact_val (dep_of hd 1 (by kernel_rfl) (by kernel_rfl)) (by decide)
                    dsimp only [nth] at h1
                    replace hK := hk_val hK (by decide) (by rfl)
                    clear hd
                    simp only [lay, Act.put, List.setIfInBounds_toArray, List.set_cons_zero, List.set_cons_succ, h1] at hK ⊢
                    go_simp
                    exact hK.out _ _ rfl (Below.refl _ _)
                  refine OpsOK.cons ?_ ?_
                  · intro u W K hB hd hK
                    have h2 := fact_val (dep_of hd 2 (by kernel_rfl) (by kernel_rfl)) (by decide)
                    dsimp only [nth] at h2
                    replace hK := hk_val hK (by decide) (by rfl)
                    clear hd
                    simp only [lay, Act.put, List.setIfInBounds_toArray, List.set_cons_zero, List.set_cons_succ, h2] at hK ⊢
                    have y0 := below_cell hB g0
                    have y1 := below_cell hB g1
                    have y2 := below_cell hB g2
                    have y3 := below_cell hB g3
                    have y4 := below_cell hB g4
                    go_simp
                    exact hK.out _ _ rfl (Below.refl _ _)
                  refine OpsOK.cons ?_ ?_
                  · intro u W K hB hd hK
                    have h2 := fact_val (dep_of hd 2 (by kernel_rfl) (by kernel_rfl)) (by decide)
                    dsimp only [nth] at h2
                    replace hK := hk_val hK (by decide) (by rfl)
                    clear hd
                    simp only [lay, Act.put, List.setIfInBounds_toArray, List.set_cons_zero, List.set_cons_succ, h2] at hK ⊢
                    go_simp
                    exact hK.out _ _ rfl (Below.refl _ _)
                  refine OpsOK.cons ?_ ?_
                  · intro u W K hB hd hK
                    have h2 := fact_val (dep_of hd 2 (by kernel_rfl) (by kernel_rfl)) (by decide)
                    dsimp only [nth] at h2
                    replace hK := hk_val hK (by decide) (by rfl)
                    clear hd
                    simp only [lay, Act.put, List.setIfInBounds_toArray, List.set_cons_zero, List.set_cons_succ, h2] at hK ⊢
                    go_simp
                    exact hK.out _ _ rfl (Below.refl _ _)
                  refine OpsOK.cons ?_ ?_
                  · intro u W K hB hd hK
                    have h2 := fact_val (dep_of hd 2 (by kernel_rfl) (by kernel_rfl)) (by decide)
                    dsimp only [nth] at h2
                    have h4 := fact_val (dep_of hd 4 (by kernel_rfl) (by kernel_rfl)) (by decide)
                    dsimp only [nth] at h4
                    have h5 := fact_val (dep_of hd 5 (by kernel_rfl) (by kernel_rfl)) (by decide)
                    dsimp only [nth] at h5
                    replace hK := hk_val hK (by decide) (by rfl)
                    clear hd
                    simp only [lay, Act.put, List.setIfInBounds_toArray, List.set_cons_zero, List.set_cons_succ, h2, h4, h5] at hK ⊢
                    go_simp
                    exact hK.out _ _ rfl (Below.refl _ _)
                  refine OpsOK.cons ?_ ?_
                  · intro u W K hB hd hK
                    have h2 := fact_val (dep_of hd 2 (by kernel_rfl) (by kernel_rfl)) (by decide)
                    dsimp only [nth] at h2
                    have h6 := fact_val (dep_of hd 6 (by kernel_rfl) (by kernel_rfl)) (by decide)
                    dsimp only [nth] at h6
                    replace hK := hk_val hK (by decide) (by rfl)
                    clear hd
                    simp only [lay, Act.put, List.setIfInBounds_toArray, List.set_cons_zero, List.set_cons_succ, h2, h6] at hK ⊢
                    have y0 := below_cell hB g5
                    have y1 := below_cell hB g6
                    have y2 := below_cell hB g7
                    have y3 := below_cell hB g8
                    have y4 := below_cell hB g9
                    go_simp
                    exact hK.out _ _ rfl (Below.refl _ _)
                  refine OpsOK.cons ?_ ?_
                  · intro u W K hB hd hK
                    have h2 := fact_val (dep_of hd 2 (by kernel_rfl) (by kernel_rfl)) (by decide)
                    dsimp only [nth] at h2
                    have h3 := fact_val (dep_of hd 3 (by kernel_rfl) (by kernel_rfl)) (by decide)
                    dsimp only [nth] at h3
                    have h7 := fact_val (dep_of hd 7 (by kernel_rfl) (by kernel_rfl)) (by decide)
                    dsimp only [nth] at h7
                    replace hK := hk_val hK (by decide) (by rfl)
                    clear hd
                    simp only [lay, Act.put, List.setIfInBounds_toArray, List.set_cons_zero, List.set_cons_succ, h2, h3, h7] at hK ⊢
                    go_simp
                    first
                      | (go_at_call 17; (with_reducible refine (sameentry_any Kk nk ck Kv nv cv Ak na ca Av ma da (eSeq x) (eGone x) (eTil x) (eKey x) (eVal x) W (HX.out.1.below hB) (HX.out.2.below hB) (HA.out.1.below (below_then hB58 hB)) (HA.out.2.below (below_then hB58 hB))).mono ?_); rintro r w9 ⟨rfl, hb⟩; exact hK.out _ _ rfl hb)
                      | (go_at_call 18; (with_reducible refine (refahead_any Ak na ca Av ma da x Bk nb cb Bv mb db y W (HA.out.1.below (below_then hB58 hB)) (HB.out.1.below (below_then hB58 hB))).mono ?_); rintro r w9 ⟨rfl, hb⟩; rw [HL.out]; exact hK.out _ _ rfl hb)
                      | (go_at_call 18; (with_reducible refine (refahead_any Ck nc cc Cv mc dc z Ak na ca Av ma da x W (HD.out.1.below (below_then hB58 hB)) (HA.out.1.below (below_then hB58 hB))).mono ?_); rintro r w9 ⟨rfl, hb⟩; rw [HC.out]; exact hK.out _ _ rfl hb)
                      | exact hK.out _ _ rfl (Below.refl _ _)
                  refine OpsOK.cons ?_ ?_
                  · intro u W K hB hd hK
                    have h2 := fact_val (dep_of hd 2 (by kernel_rfl) (by kernel_rfl)) (by decide)
                    dsimp only [nth] at h2
                    have h8 := fact_val (dep_of hd 8 (by kernel_rfl) (by kernel_rfl)) (by decide)
                    dsimp only [nth] at h8
                    replace hK := hk_val hK (by decide) (by rfl)
                    clear hd
                    simp only [lay, Act.put, List.setIfInBounds_toArray, List.set_cons_zero, List.set_cons_succ, h2, h8] at hK ⊢
                    go_simp
                    exact hK.out _ _ rfl (Below.refl _ _)
                  refine OpsOK.cons ?_ ?_
                  · intro u W K hB hd hK
                    have h2 := fact_val (dep_of hd 2 (by kernel_rfl) (by kernel_rfl)) (by decide)
                    dsimp only [nth] at h2
                    have h9 := fact_val (dep_of hd 9 (by kernel_rfl) (by kernel_rfl)) (by decide)
                    dsimp only [nth] at h9
                    replace hK := hk_val hK (by decide) (by rfl)
                    clear hd
                    simp only [lay, Act.put, List.setIfInBounds_toArray, List.set_cons_zero, List.set_cons_succ, h2, h9] at hK ⊢
                    go_simp
                    exact hK.out _ _ rfl (Below.refl _ _)
                  refine OpsOK.cons ?_ ?_
                  · intro u W K hB hd hK
                    have h8 := fact_val (dep_of hd 8 (by kernel_rfl) (by kernel_rfl)) (by decide)
                    dsimp only [nth] at h8
                    have h10 := fact_val (dep_of hd 10 (by kernel_rfl) (by kernel_rfl)) (by decide)
                    dsimp only [nth] at h10
                    replace hK := hk_val hK (by decide) (by rfl)
                    clear hd
                    simp only [lay, Act.put, List.setIfInBounds_toArray, List.set_cons_zero, List.set_cons_succ, h8, h10] at hK ⊢
                    go_simp
                    exact hK.out _ _ rfl (Below.refl _ _)
                  refine OpsOK.cons ?_ ?_
                  · intro u W K hB hd hK
                    have h11 := fact_val (dep_of hd 11 (by kernel_rfl) (by kernel_rfl)) (by decide)
                    dsimp only [nth] at h11
                    replace hK := hk_val hK (by decide) (by rfl)
                    clear hd
                    simp only [lay, Act.put, List.setIfInBounds_toArray, List.set_cons_zero, List.set_cons_succ, h11] at hK ⊢
                    go_simp
                    exact hK.out _ _ rfl (Below.refl _ _)
                  refine OpsOK.cons ?_ ?_
                  · intro u W K hB hd hK
                    have h11 := fact_val (dep_of hd 11 (by kernel_rfl) (by kernel_rfl)) (by decide)
                    dsimp only [nth] at h11
                    replace hK := hk_val hK (by decide) (by rfl)
                    clear hd
                    simp only [lay, Act.put, List.setIfInBounds_toArray, List.set_cons_zero, List.set_cons_succ, h11] at hK ⊢
                    go_simp
                    exact hK.out _ _ rfl (Below.refl _ _)
                  refine OpsOK.cons ?_ ?_
                  · intro u W K hB hd hK
                    have h11 := fact_val (dep_of hd 11 (by kernel_rfl) (by kernel_rfl)) (by decide)
                    dsimp only [nth] at h11
                    have h12 := fact_val (dep_of hd 12 (by kernel_rfl) (by kernel_rfl)) (by decide)
                    dsimp only [nth] at h12
                    have h13 := fact_val (dep_of hd 13 (by kernel_rfl) (by kernel_rfl)) (by decide)
                    dsimp only [nth] at h13
                    replace hK := hk_val hK (by decide) (by rfl)
                    clear hd
                    simp only [lay, Act.put, List.setIfInBounds_toArray, List.set_cons_zero, List.set_cons_succ, h11, h12, h13] at hK ⊢
                    go_simp
                    exact hK.out _ _ rfl (Below.refl _ _)
                  refine OpsOK.cons ?_ ?_
                  · intro u W K hB hd hK
                    have h11 := fact_val (dep_of hd 11 (by kernel_rfl) (by kernel_rfl)) (by decide)
                    dsimp only [nth] at h11
                    have h14 := fact_val (dep_of hd 14 (by kernel_rfl) (by kernel_rfl)) (by decide)
                    dsimp only [nth] at h14
                    replace hK := hk_val hK (by decide) (by rfl)
                    clear hd
                    simp only [lay, Act.put, List.setIfInBounds_toArray, List.set_cons_zero, List.set_cons_succ, h11, h14] at hK ⊢
                    have y0 := below_cell hB g5
                    have y1 := below_cell hB g6
                    have y2 := below_cell hB g7
                    have y3 := below_cell hB g8
                    have y4 := below_cell hB g9
                    go_simp
                    exact hK.out _ _ rfl (Below.refl _ _)
                  refine OpsOK.cons ?_ ?_
                  · intro u W K hB hd hK
                    have h11 := fact_val (dep_of hd 11 (by kernel_rfl) (by kernel_rfl)) (by decide)
                    dsimp only [nth] at h11
                    replace hK := hk_val hK (by decide) (by rfl)
                    clear hd
                    simp only [lay, Act.put, List.setIfInBounds_toArray, List.set_cons_zero, List.set_cons_succ, h11] at hK ⊢
                    go_simp
                    exact hK.out _ _ rfl (Below.refl _ _)
                  refine OpsOK.cons ?_ ?_
                  · intro u W K hB hd hK
                    have h11 := fact_val (dep_of hd 11 (by kernel_rfl) (by kernel_rfl)) (by decide)
                    dsimp only [nth] at h11
                    replace hK := hk_val hK (by decide) (by rfl)
                    clear hd
                    simp only [lay, Act.put, List.setIfInBounds_toArray, List.set_cons_zero, List.set_cons_succ, h11] at hK ⊢
                    go_simp
                    exact hK.out _ _ rfl (Below.refl _ _)
                  refine OpsOK.cons ?_ ?_
                  · intro u W K hB hd hK
                    have h11 := fact_val (dep_of hd 11 (by kernel_rfl) (by kernel_rfl)) (by decide)
                    dsimp only [nth] at h11
                    have h16 := fact_val (dep_of hd 16 (by kernel_rfl) (by kernel_rfl)) (by decide)
                    dsimp only [nth] at h16
                    have h17 := fact_val (dep_of hd 17 (by kernel_rfl) (by kernel_rfl)) (by decide)
                    dsimp only [nth] at h17
                    replace hK := hk_val hK (by decide) (by rfl)
                    clear hd
                    simp only [lay, Act.put, List.setIfInBounds_toArray, List.set_cons_zero, List.set_cons_succ, h11, h16, h17] at hK ⊢
                    go_simp
                    exact hK.out _ _ rfl (Below.refl _ _)
                  refine OpsOK.cons ?_ ?_
                  · intro u W K hB hd hK
                    have h11 := fact_val (dep_of hd 11 (by kernel_rfl) (by kernel_rfl)) (by decide)
                    dsimp only [nth] at h11
                    have h18 := fact_val (dep_of hd 18 (by kernel_rfl) (by kernel_rfl)) (by decide)
                    dsimp only [nth] at h18
                    replace hK := hk_val hK (by decide) (by rfl)
                    clear hd
                    simp only [lay, Act.put, List.setIfInBounds_toArray, List.set_cons_zero, List.set_cons_succ, h11, h18] at hK ⊢
                    have y0 := below_cell hB g10
                    have y1 := below_cell hB g11
                    have y2 := below_cell hB g12
                    have y3 := below_cell hB g13
                    have y4 := below_cell hB g14
                    go_simp
                    exact hK.out _ _ rfl (Below.refl _ _)
                  refine OpsOK.cons ?_ ?_
                  · intro u W K hB hd hK
                    have h11 := fact_val (dep_of hd 11 (by kernel_rfl) (by kernel_rfl)) (by decide)
                    dsimp only [nth] at h11
                    have h15 := fact_val (dep_of hd 15 (by kernel_rfl) (by kernel_rfl)) (by decide)
                    dsimp only [nth] at h15
                    have h19 := fact_val (dep_of hd 19 (by kernel_rfl) (by kernel_rfl)) (by decide)
                    dsimp only [nth] at h19
                    replace hK := hk_val hK (by decide) (by rfl)
                    clear hd
                    simp only [lay, Act.put, List.setIfInBounds_toArray, List.set_cons_zero, List.set_cons_succ, h11, h15, h19] at hK ⊢
                    go_simp
                    first
                      | (go_at_call 17; (with_reducible refine (sameentry_any Kk nk ck Kv nv cv Ak na ca Av ma da (eSeq x) (eGone x) (eTil x) (eKey x) (eVal x) W (HX.out.1.below hB) (HX.out.2.below hB) (HA.out.1.below (below_then hB58 hB)) (HA.out.2.below (below_then hB58 hB))).mono ?_); rintro r w9 ⟨rfl, hb⟩; exact hK.out _ _ rfl hb)
                      | (go_at_call 18; (with_reducible refine (refahead_any Ak na ca Av ma da x Bk nb cb Bv mb db y W (HA.out.1.below (below_then hB58 hB)) (HB.out.1.below (below_then hB58 hB))).mono ?_); rintro r w9 ⟨rfl, hb⟩; rw [HL.out]; exact hK.out _ _ rfl hb)
                      | (go_at_call 18; (with_reducible refine (refahead_any Ck nc cc Cv mc dc z Ak na ca Av ma da x W (HD.out.1.below (below_then hB58 hB)) (HA.out.1.below (below_then hB58 hB))).mono ?_); rintro r w9 ⟨rfl, hb⟩; rw [HC.out]; exact hK.out _ _ rfl hb)
                      | exact hK.out _ _ rfl (Below.refl _ _)
                  refine OpsOK.cons ?_ ?_
                  · intro u W K hB hd hK
                    have h11 := fact_val (dep_of hd 11 (by kernel_rfl) (by kernel_rfl)) (by decide)
                    dsimp only [nth] at h11
                    have h20 := fact_val (dep_of hd 20 (by kernel_rfl) (by kernel_rfl)) (by decide)
                    dsimp only [nth] at h20
                    replace hK := hk_val hK (by decide) (by rfl)
                    clear hd
                    simp only [lay, Act.put, List.setIfInBounds_toArray, List.set_cons_zero, List.set_cons_succ, h11, h20] at hK ⊢
                    go_simp
                    exact hK.out _ _ rfl (Below.refl _ _)
                  refine OpsOK.cons ?_ ?_
                  · intro u W K hB hd hK
                    have h11 := fact_val (dep_of hd 11 (by kernel_rfl) (by kernel_rfl)) (by decide)
                    dsimp only [nth] at h11
                    have h21 := fact_val (dep_of hd 21 (by kernel_rfl) (by kernel_rfl)) (by decide)
                    dsimp only [nth] at h21
                    replace hK := hk_val hK (by decide) (by rfl)
                    clear hd
                    simp only [lay, Act.put, List.setIfInBounds_toArray, List.set_cons_zero, List.set_cons_succ, h11, h21] at hK ⊢
                    go_simp
                    exact hK.out _ _ rfl (Below.refl _ _)
                  refine OpsOK.cons ?_ ?_
                  · intro u W K hB hd hK
                    have h20 := fact_val (dep_of hd 20 (by kernel_rfl) (by kernel_rfl)) (by decide)
                    dsimp only [nth] at h20
                    have h22 := fact_val (dep_of hd 22 (by kernel_rfl) (by kernel_rfl)) (by decide)
                    dsimp only [nth] at h22
                    replace hK := hk_val hK (by decide) (by rfl)
                    clear hd
                    simp only [lay, Act.put, List.setIfInBounds_toArray, List.set_cons_zero, List.set_cons_succ, h20, h22] at hK ⊢
                    go_simp
                    exact hK.out _ _ rfl (Below.refl _ _)
                  refine OpsOK.cons ?_ ?_
                  · intro u W K hB hd hK
                    have h23 := fact_val (dep_of hd 23 (by kernel_rfl) (by kernel_rfl)) (by decide)
                    dsimp only [nth] at h23
                    replace hK := hk_val hK (by decide) (by rfl)
                    clear hd
                    simp only [lay, Act.put, List.setIfInBounds_toArray, List.set_cons_zero, List.set_cons_succ, h23] at hK ⊢
                    go_simp
                    exact hK.out _ _ rfl (Below.refl _ _)
                  refine OpsOK.cons ?_ ?_
                  · intro u W K hB hd hK
                    have h23 := fact_val (dep_of hd 23 (by kernel_rfl) (by kernel_rfl)) (by decide)
                    dsimp only [nth] at h23
                    have h24 := fact_val (dep_of hd 24 (by kernel_rfl) (by kernel_rfl)) (by decide)
                    dsimp only [nth] at h24
                    replace hK := hk_val hK (by decide) (by rfl)
                    clear hd
                    simp only [lay, Act.put, List.setIfInBounds_toArray, List.set_cons_zero, List.set_cons_succ, h23, h24] at hK ⊢
                    go_simp
                    exact hK.out _ _ rfl (Below.refl _ _)
                  refine OpsOK.cons ?_ ?_
                  · intro u W K hB hd hK
                    have h23 := fact_val (dep_of hd 23 (by kernel_rfl) (by kernel_rfl)) (by decide)
                    dsimp only [nth] at h23
                    have h25 := fact_val (dep_of hd 25 (by kernel_rfl) (by kernel_rfl)) (by decide)
                    dsimp only [nth] at h25
                    replace hK := hk_val hK (by decide) (by rfl)
                    clear hd
                    simp only [lay, Act.put, List.setIfInBounds_toArray, List.set_cons_zero, List.set_cons_succ, h23, h25] at hK ⊢
                    go_simp
                    exact hK.out _ _ rfl (Below.refl _ _)
                  refine OpsOK.cons ?_ ?_
                  · intro u W K hB hd hK
                    have h26 := fact_val (dep_of hd 26 (by kernel_rfl) (by kernel_rfl)) (by decide)
                    dsimp only [nth] at h26
                    replace hK := hk_val hK (by decide) (by rfl)
                    clear hd
                    simp only [lay, Act.put, List.setIfInBounds_toArray, List.set_cons_zero, List.set_cons_succ, h26] at hK ⊢
                    go_simp
                    exact hK.out _ _ rfl (Below.refl _ _)
                  refine OpsOK.cons ?_ ?_
                  · intro u W K hB hd hK
                    have h26 := fact_val (dep_of hd 26 (by kernel_rfl) (by kernel_rfl)) (by decide)
                    dsimp only [nth] at h26
                    replace hK := hk_val hK (by decide) (by rfl)
                    clear hd
                    simp only [lay, Act.put, List.setIfInBounds_toArray, List.set_cons_zero, List.set_cons_succ, h26] at hK ⊢
                    go_simp
                    exact hK.out _ _ rfl (Below.refl _ _)
                  refine OpsOK.cons ?_ ?_
                  · intro u W K hB hd hK
                    have h26 := fact_val (dep_of hd 26 (by kernel_rfl) (by kernel_rfl)) (by decide)
                    dsimp only [nth] at h26
                    have h28 := fact_val (dep_of hd 28 (by kernel_rfl) (by kernel_rfl)) (by decide)
                    dsimp only [nth] at h28
                    replace hK := hk_val hK (by decide) (by rfl)
                    clear hd
                    simp only [lay, Act.put, List.setIfInBounds_toArray, List.set_cons_zero, List.set_cons_succ, h26, h28] at hK ⊢
                    go_simp
                    exact hK.out _ _ rfl (Below.refl _ _)
                  refine OpsOK.cons ?_ ?_
                  · intro u W K hB hd hK
                    have h26 := fact_val (dep_of hd 26 (by kernel_rfl) (by kernel_rfl)) (by decide)
                    dsimp only [nth] at h26
                    have h27 := fact_val (dep_of hd 27 (by kernel_rfl) (by kernel_rfl)) (by decide)
                    dsimp only [nth] at h27
                    have h29 := fact_val (dep_of hd 29 (by kernel_rfl) (by kernel_rfl)) (by decide)
                    dsimp only [nth] at h29
                    replace hK := hk_val hK (by decide) (by rfl)
                    clear hd
                    simp only [lay, Act.put, List.setIfInBounds_toArray, List.set_cons_zero, List.set_cons_succ, h26, h27, h29] at hK ⊢
                    go_simp
                    exact hK.out _ _ rfl (Below.refl _ _)
                  refine OpsOK.cons ?_ ?_
                  · intro u W K hB hd hK
                    have h26 := fact_val (dep_of hd 26 (by kernel_rfl) (by kernel_rfl)) (by decide)
                    dsimp only [nth] at h26
                    have h30 := fact_val (dep_of hd 30 (by kernel_rfl) (by kernel_rfl)) (by decide)
                    dsimp only [nth] at h30
                    replace hK := hk_val hK (by decide) (by rfl)
                    clear hd
                    simp only [lay, Act.put, List.setIfInBounds_toArray, List.set_cons_zero, List.set_cons_succ, h26, h30] at hK ⊢
                    have y0 := below_cell hB g15
                    have y1 := below_cell hB g16
                    have y2 := below_cell hB g17
                    have y3 := below_cell hB g18
                    have y4 := below_cell hB g19
                    go_simp
                    exact hK.out _ _ rfl (Below.refl _ _)
                  refine OpsOK.cons ?_ ?_
                  · intro u W K hB hd hK
                    have h26 := fact_val (dep_of hd 26 (by kernel_rfl) (by kernel_rfl)) (by decide)
                    dsimp only [nth] at h26
                    replace hK := hk_val hK (by decide) (by rfl)
                    clear hd
                    simp only [lay, Act.put, List.setIfInBounds_toArray, List.set_cons_zero, List.set_cons_succ, h26] at hK ⊢
                    go_simp
                    exact hK.out _ _ rfl (Below.refl _ _)
                  refine OpsOK.cons ?_ ?_
                  · intro u W K hB hd hK
                    have h26 := fact_val (dep_of hd 26 (by kernel_rfl) (by kernel_rfl)) (by decide)
                    dsimp only [nth] at h26
                    replace hK := hk_val hK (by decide) (by rfl)
                    clear hd
                    simp only [lay, Act.put, List.setIfInBounds_toArray, List.set_cons_zero, List.set_cons_succ, h26] at hK ⊢
                    go_simp
                    exact hK.out _ _ rfl (Below.refl _ _)
                  refine OpsOK.cons ?_ ?_
                  · intro u W K hB hd hK
                    have h26 := fact_val (dep_of hd 26 (by kernel_rfl) (by kernel_rfl)) (by decide)
                    dsimp only [nth] at h26
                    have h32 := fact_val (dep_of hd 32 (by kernel_rfl) (by kernel_rfl)) (by decide)
                    dsimp only [nth] at h32
                    have h33 := fact_val (dep_of hd 33 (by kernel_rfl) (by kernel_rfl)) (by decide)
                    dsimp only [nth] at h33
                    replace hK := hk_val hK (by decide) (by rfl)
                    clear hd
                    simp only [lay, Act.put, List.setIfInBounds_toArray, List.set_cons_zero, List.set_cons_succ, h26, h32, h33] at hK ⊢
                    go_simp
                    exact hK.out _ _ rfl (Below.refl _ _)
                  refine OpsOK.cons ?_ ?_
                  · intro u W K hB hd hK
                    have h26 := fact_val (dep_of hd 26 (by kernel_rfl) (by kernel_rfl)) (by decide)
                    dsimp only [nth] at h26
                    have h34 := fact_val (dep_of hd 34 (by kernel_rfl) (by kernel_rfl)) (by decide)
                    dsimp only [nth] at h34
                    replace hK := hk_val hK (by decide) (by rfl)
                    clear hd
                    simp only [lay, Act.put, List.setIfInBounds_toArray, List.set_cons_zero, List.set_cons_succ, h26, h34] at hK ⊢
                    have y0 := below_cell hB g5
                    have y1 := below_cell hB g6
                    have y2 := below_cell hB g7
                    have y3 := below_cell hB g8
                    have y4 := below_cell hB g9
                    go_simp
                    exact hK.out _ _ rfl (Below.refl _ _)
                  refine OpsOK.cons ?_ ?_
                  · intro u W K hB hd hK
                    have h26 := fact_val (dep_of hd 26 (by kernel_rfl) (by kernel_rfl)) (by decide)
                    dsimp only [nth] at h26
                    have h31 := fact_val (dep_of hd 31 (by kernel_rfl) (by kernel_rfl)) (by decide)
                    dsimp only [nth] at h31
                    have h35 := fact_val (dep_of hd 35 (by kernel_rfl) (by kernel_rfl)) (by decide)
                    dsimp only [nth] at h35
                    replace hK := hk_val hK (by decide) (by rfl)
                    clear hd
                    simp only [lay, Act.put, List.setIfInBounds_toArray, List.set_cons_zero, List.set_cons_succ, h26, h31, h35] at hK ⊢
                    go_simp
                    first
                      | (go_at_call 17; (with_reducible refine (sameentry_any Kk nk ck Kv nv cv Ak na ca Av ma da (eSeq x) (eGone x) (eTil x) (eKey x) (eVal x) W (HX.out.1.below hB) (HX.out.2.below hB) (HA.out.1.below (below_then hB58 hB)) (HA.out.2.below (below_then hB58 hB))).mono ?_); rintro r w9 ⟨rfl, hb⟩; exact hK.out _ _ rfl hb)
                      | (go_at_call 18; (with_reducible refine (refahead_any Ak na ca Av ma da x Bk nb cb Bv mb db y W (HA.out.1.below (below_then hB58 hB)) (HB.out.1.below (below_then hB58 hB))).mono ?_); rintro r w9 ⟨rfl, hb⟩; rw [HL.out]; exact hK.out _ _ rfl hb)
                      | (go_at_call 18; (with_reducible refine (refahead_any Ck nc cc Cv mc dc z Ak na ca Av ma da x W (HD.out.1.below (below_then hB58 hB)) (HA.out.1.below (below_then hB58 hB))).mono ?_); rintro r w9 ⟨rfl, hb⟩; rw [HC.out]; exact hK.out _ _ rfl hb)
                      | exact hK.out _ _ rfl (Below.refl _ _)
                  refine OpsOK.cons ?_ ?_
                  · intro u W K hB hd hK
                    have h26 := fact_val (dep_of hd 26 (by kernel_rfl) (by kernel_rfl)) (by decide)
                    dsimp only [nth] at h26
                    have h36 := fact_val (dep_of hd 36 (by kernel_rfl) (by kernel_rfl)) (by decide)
                    dsimp only [nth] at h36
                    replace hK := hk_val hK (by decide) (by rfl)
                    clear hd
                    simp only [lay, Act.put, List.setIfInBounds_toArray, List.set_cons_zero, List.set_cons_succ, h26, h36] at hK ⊢
                    go_simp
                    exact hK.out _ _ rfl (Below.refl _ _)
                  refine OpsOK.cons ?_ ?_
                  · intro u W K hB hd hK
                    have h23 := fact_val (dep_of hd 23 (by kernel_rfl) (by kernel_rfl)) (by decide)
                    dsimp only [nth] at h23
                    have h26 := fact_val (dep_of hd 26 (by kernel_rfl) (by kernel_rfl)) (by decide)
                    dsimp only [nth] at h26
                    have h37 := fact_val (dep_of hd 37 (by kernel_rfl) (by kernel_rfl)) (by decide)
                    dsimp only [nth] at h37
                    replace hK := hk_val hK (by decide) (by rfl)
                    clear hd
                    simp only [lay, Act.put, List.setIfInBounds_toArray, List.set_cons_zero, List.set_cons_succ, h23, h26, h37] at hK ⊢
                    go_simp
                    exact hK.out _ _ rfl (Below.refl _ _)
                  refine OpsOK.cons ?_ ?_
                  · intro u W K hB hd hK
                    have h23 := fact_val (dep_of hd 23 (by kernel_rfl) (by kernel_rfl)) (by decide)
                    dsimp only [nth] at h23
                    have h38 := fact_val (dep_of hd 38 (by kernel_rfl) (by kernel_rfl)) (by decide)
                    dsimp only [nth] at h38
                    replace hK := hk_val hK (by decide) (by rfl)
                    clear hd
                    simp only [lay, Act.put, List.setIfInBounds_toArray, List.set_cons_zero, List.set_cons_succ, h23, h38] at hK ⊢
                    go_simp
                    exact hK.out _ _ rfl (Below.refl _ _)
                  exact OpsOK.nil
                intro u W hB hf
                have h0 := fact_val (hf 0 (by decide) (by decide)) (by decide)
                dsimp only [nth] at h0
                have h1 := fact_val (hf 1 (by decide) (by decide)) (by decide)
                dsimp only [nth] at h1
                have h2 := fact_val (hf 2 (by decide) (by decide)) (by decide)
                dsimp only [nth] at h2
                have h3 := fact_val (hf 3 (by decide) (by decide)) (by decide)
                dsimp only [nth] at h3
                have h4 := fact_val (hf 4 (by decide) (by decide)) (by decide)
                dsimp only [nth] at h4
                have h5 := fact_val (hf 5 (by decide) (by decide)) (by decide)
                dsimp only [nth] at h5
                have h6 := fact_val (hf 6 (by decide) (by decide)) (by decide)
                dsimp only [nth] at h6
                have h7 := fact_val (hf 7 (by decide) (by decide)) (by decide)
                dsimp only [nth] at h7
                have h8 := fact_val (hf 8 (by decide) (by decide)) (by decide)
                dsimp only [nth] at h8
                have h9 := fact_val (hf 9 (by decide) (by decide)) (by decide)
                dsimp only [nth] at h9
                have h10 := fact_val (hf 10 (by decide) (by decide)) (by decide)
                dsimp only [nth] at h10
                have h11 := fact_val (hf 11 (by decide) (by decide)) (by decide)
                dsimp only [nth] at h11
                have h12 := fact_val (hf 12 (by decide) (by decide)) (by decide)
                dsimp only [nth] at h12
                have h13 := fact_val (hf 13 (by decide) (by decide)) (by decide)
                dsimp only [nth] at h13
                have h14 := fact_val (hf 14 (by decide) (by decide)) (by decide)
                dsimp only [nth] at h14
                have h15 := fact_val (hf 15 (by decide) (by decide)) (by decide)
                dsimp only [nth] at h15
                have h16 := fact_val (hf 16 (by decide) (by decide)) (by decide)
                dsimp only [nth] at h16
                have h17 := fact_val (hf 17 (by decide) (by decide)) (by decide)
                dsimp only [nth] at h17
                have h18 := fact_val (hf 18 (by decide) (by decide)) (by decide)
                dsimp only [nth] at h18
                have h19 := fact_val (hf 19 (by decide) (by decide)) (by decide)
                dsimp only [nth] at h19
                have h20 := fact_val (hf 20 (by decide) (by decide)) (by decide)
                dsimp only [nth] at h20
                have h21 := fact_val (hf 21 (by decide) (by decide)) (by decide)
                dsimp only [nth] at h21
                have h22 := fact_val (hf 22 (by decide) (by decide)) (by decide)
                dsimp only [nth] at h22
                have h23 := fact_val (hf 23 (by decide) (by decide)) (by decide)
                dsimp only [nth] at h23
                have h24 := fact_val (hf 24 (by decide) (by decide)) (by decide)
                dsimp only [nth] at h24
                have h25 := fact_val (hf 25 (by decide) (by decide)) (by decide)
                dsimp only [nth] at h25
                have h26 := fact_val (hf 26 (by decide) (by decide)) (by decide)
                dsimp only [nth] at h26
                have h27 := fact_val (hf 27 (by decide) (by decide)) (by decide)
                dsimp only [nth] at h27
                have h28 := fact_val (hf 28 (by decide) (by decide)) (by decide)
                dsimp only [nth] at h28
                have h29 := fact_val (hf 29 (by decide) (by decide)) (by decide)
                dsimp only [nth] at h29
                have h30 := fact_val (hf 30 (by decide) (by decide)) (by decide)
                dsimp only [nth] at h30
                have h31 := fact_val (hf 31 (by decide) (by decide)) (by decide)
                dsimp only [nth] at h31
                have h32 := fact_val (hf 32 (by decide) (by decide)) (by decide)
                dsimp only [nth] at h32
                have h33 := fact_val (hf 33 (by decide) (by decide)) (by decide)
                dsimp only [nth] at h33
                have h34 := fact_val (hf 34 (by decide) (by decide)) (by decide)
                dsimp only [nth] at h34
                have h35 := fact_val (hf 35 (by decide) (by decide)) (by decide)
                dsimp only [nth] at h35
                have h36 := fact_val (hf 36 (by decide) (by decide)) (by decide)
                dsimp only [nth] at h36
                have h37 := fact_val (hf 37 (by decide) (by decide)) (by decide)
                dsimp only [nth] at h37
                have h38 := fact_val (hf 38 (by decide) (by decide)) (by decide)
                dsimp only [nth] at h38
                have h39 := fact_val (hf 39 (by decide) (by decide)) (by decide)
                dsimp only [nth] at h39
                clear hf
                simp only [lay, h0, h1, h2, h3, h4, h5, h6, h7, h8, h9, h10, h11, h12, h13, h14, h15, h16, h17, h18, h19, h20, h21, h22, h23, h24, h25, h26, h27, h28, h29, h30, h31, h32, h33, h34, h35, h36, h37, h38, h39]
                clear h0 h1 h2 h3 h4 h5 h6 h7 h8 h9 h10 h11 h12 h13 h14 h15 h16 h17 h18 h19 h20 h21 h22 h23 h24 h25 h26 h27 h28 h29 h30 h31 h32 h33 h34 h35 h36 h37 h38 h39
                go_wp2
                go_roundw
                case rel => exact ⟨k2 + 1, by omega, by go_num, HJ8.out.below hB⟩
                case measure => simp [intOf]; omega
            · obtain rfl : k2 = S := by omega
              have HO := hid (HR3.out.below hB3r)
              by_cases hst : Srt o3
              · have hbt := srtB_true hst
                have he := HTn.out.2.2.2.2.1 hst
                subst he
                have HO4 := hid (HR4.out.below hB4r)
                clear hst
                have HBt := hid hbt
                clear hbt
                go_wp2_with (first
                  | (go_at_call 19; (with_reducible refine (refordered_any A3 k2 c3 o4 _ HO.out).mono ?_); rintro r w7 ⟨rfl, hb7⟩; rw [HBt.out])
                  | (go_at_call 14; (with_reducible refine (sameentries_any A3 c3 A4 c4 _ _ _ (HO.out.below hb7) (HO4.out.below hb7)).mono ?_); rintro r w8 ⟨rfl, hb8⟩; have hB8 := below_then hb7 hb8)
                  | (go_at_call 10; (with_reducible refine (awake_any _).mono ?_); rintro r w9 ⟨rfl, hb9⟩))
                go_ret
                exact ⟨rfl, below_then hBr (below_then hB8 hb9)⟩
              · have HBt := hid (srtB_false hst)
                clear hst
                go_wp2_with (first
                  | (go_at_call 19; (with_reducible refine (refordered_any A3 k2 c3 o3 _ HO.out).mono ?_); rintro r w7 ⟨rfl, hb7⟩; rw [HBt.out])
                  | (go_at_call 10; (with_reducible refine (awake_any _).mono ?_); rintro r w9 ⟨rfl, hb9⟩))
                go_ret
                exact ⟨rfl, below_then hBr (below_then hb7 hb9)⟩
end Go.Proofs.Ytnjhiiakpndnnaa
