/- Layer 16's laws: MergeWalks. -/
import Derived.Test.YtnjhiiakpndnnaaMgTp
import Derived.Test.YtnjhiiakpndnnaaMgSk
import Derived.Test.YtnjhiiakpndnnaaStR
import Derived.BigQuiet
namespace Go.Proofs.Ytnjhiiakpndnnaa
open Go.RowKit
set_option linter.unusedVariables false
set_option linter.unusedSimpArgs false

set_option maxHeartbeats 8000000 in
theorem refcompare_quiet (A : Option Addr) (n c : Nat) (xs : List UInt8) (A' : Option Addr) (n' c' : Nat) (ys : List UInt8) (w : World) (h : RB w A n xs) (h' : RB w A' n' ys) :
    Calls Try.prog 23 #[.slice A n c, .slice A' n' c'] w fun e w' => e = .returned (.int .i64 (cmpB xs ys)) ∧ ∃ m, w' = w.drewN m := by
  have HL := hid (cmpB_less xs ys)
  have q1 := h.conv c
  have q2 := h'.conv c'
  have q3 := h.drew.conv c
  have q4 := h'.drew.conv c'
  have b1 : (bstr xs).toList = xs := ByteArray.toList_mk xs
  have b2 : (bstr ys).toList = ys := ByteArray.toList_mk ys
  clear h h'
  by_cases h1 : Op.bytesLess xs ys = true
  · have g1 : Op.bytesLess (bstr xs).toList (bstr ys).toList = true := by rw [b1, b2]; exact h1
    have HR : Hid (cmpB xs ys = -1) := by unfold Hid; rw [HL.out, if_pos h1]
    clear HL h1 b1 b2
    go_enter Try.func23, Try.ntmps23
    go_wp2
    go_region
    go_wp2
    go_ret
    exact ⟨by rw [HR.out]; rfl, 1, rfl⟩
  · have g1 : Op.bytesLess (bstr xs).toList (bstr ys).toList = false := by rw [b1, b2]; simpa using h1
    by_cases h2 : Op.bytesLess ys xs = true
    · have HR : Hid (cmpB xs ys = 1) := by unfold Hid; rw [HL.out, if_neg h1, if_pos h2]
      have g2 : ∀ u, (binOp .gtr 9 (.string (bstr xs)) (.string (bstr ys))).run Try.prog u = .ok (.bool true) u := fun u => by rw [run_gtr, HR.out]; rfl
      clear HL h1 h2 b1 b2
      go_enter Try.func23, Try.ntmps23
      go_wp2
      go_region
      go_wp2
      go_ret
      exact ⟨by rw [HR.out]; rfl, 1, rfl⟩
    · have HR : Hid (cmpB xs ys = 0) := by unfold Hid; rw [HL.out, if_neg h1, if_neg h2]
      have g2 : ∀ u, (binOp .gtr 9 (.string (bstr xs)) (.string (bstr ys))).run Try.prog u = .ok (.bool false) u := fun u => by rw [run_gtr, HR.out]; rfl
      clear HL h1 h2 b1 b2
      go_enter Try.func23, Try.ntmps23
      go_wp2
      go_region
      go_wp2
      go_ret
      exact ⟨by rw [HR.out]; rfl, 1, rfl⟩
/-- What the document's Merge leaves, so many entries in all. -/
def RefN (w w' : World) (ess : List (List EntR)) (r : Ending) : Prop := ∃ A c out N, r = .returned (.slice A N c) ∧ MRel ess out ∧ out.length = N ∧ N ≤ 40000 ∧ N ≤ c ∧ REnts w' A N out ∧ Below w.heap.size w w'
theorem refmerge_len (A : Option Addr) (n c : Nat) (ess : List (List EntR)) (w : World) (h : REnss w A n ess) (hn : n ≤ 100) (hf : totR ess ≤ 40000) :
    Calls Try.prog 22 #[.slice A n c] w fun r w' => RefN w w' ess r := by
  refine (refmerge_any A n c ess w h hn hf).mono ?_
  intro r w' hrc
  obtain ⟨A3, c3, o, rfl, hm, hc, hr, hb⟩ := hrc.open_ hf
  have hl : o.length ≤ 40000 := by rw [hm.perm.length_eq, ← totR_flat]; exact hf
  exact ⟨A3, c3, o, _, rfl, hm, rfl, hl, hc, hr, hb⟩
set_option maxHeartbeats 64000000 in
set_option maxRecDepth 200000 in
theorem MergeWalks_walk (A : Option Addr) (n c : Nat) (ess : List (List EntR)) (As : Option Addr) (ns cs : Nat) (ss : List StepR) (w : World) (h : REnss w A n ess) (hc : n ≤ c) (hst : RSteps w As ns ss) (hcs : ns ≤ cs) :
    Calls Try.prog 8 #[.slice A n c, .slice As ns cs] w fun e w' => e = .returned (.bool true) ∧ Below w.heap.size w w' := by
  have hmax := h.2.1
  have hsmax := hst.2.1
  have H := hid h
  have HSt := hid hst
  clear h hst
  by_cases h64 : 64 < n
  · have hd64 : decide ((64 : Int) < (n : Int)) = true := decide_eq_true (by omega)
    go_enter Try.func8, Try.ntmps8
    go_wp2_with (first
      | (go_at_call 9; (with_reducible refine (light_any A n c ess _ H.out).mono ?_); rintro r w1 ⟨b, rfl, hlt, hb1⟩; have HLt := hid hlt; clear hlt; cases b)
      | (go_at_call 11; (with_reducible refine (sorted_fine A n c ess _ (H.out.below hb1) (HLt.out (by first | rfl | trivial))).mono ?_); rintro r w2 ⟨A2, c2, R2, rfl, hc2, hr2, hs2, hm2, ht2, hb2⟩; have HR2 := hid hr2; have HA2 := hid hs2; have HM2 := hid hm2; have HT2 := hid ht2; have h70 := (HLt.out (by first | rfl | trivial)).1; clear hr2 hs2 hm2 ht2; have hB2 := below_then hb1 hb2)
      | (go_at_call 22; (with_reducible refine (refmerge_len A2 n c2 R2 _ HR2.out (by omega) HT2.out).mono ?_); rintro r w3 ⟨A3, c3, o3, N, rfl, hm3, hN3, hN4, hc3, hr3, hb3⟩; have hB3 := below_then hB2 hb3; clear hm3 hr3)
      | (go_at_call 15; (with_reducible refine (new_many A2 n c2 R2 _ (HR2.out.below hb3) HA2.out h64 HT2.out HM2.out).mono ?_); rintro r w6 ⟨rfl, hb6⟩; have hB6 := below_then hB3 hb6)
      | (go_at_call 10; (with_reducible refine (awake_any _).mono ?_); rintro r w9 ⟨rfl, hb9⟩))
    · go_ret
      exact ⟨rfl, below_then hb1 hb9⟩
    · go_ret
      exact ⟨rfl, below_then hB6 hb9⟩
  · have hd64 : decide ((64 : Int) < (n : Int)) = false := decide_eq_false (by omega)
    go_enter Try.func8, Try.ntmps8
    go_wp2_with (first
      | (go_at_call 9; (with_reducible refine (light_any A n c ess _ H.out).mono ?_); rintro r w1 ⟨b, rfl, hlt, hb1⟩; have HLt := hid hlt; clear hlt; cases b)
      | (go_at_call 11; (with_reducible refine (sorted_fine A n c ess _ (H.out.below hb1) (HLt.out (by first | rfl | trivial))).mono ?_); rintro r w2 ⟨A2, c2, R2, rfl, hc2, hr2, hs2, hm2, ht2, hb2⟩; have HR2 := hid hr2; have HA2 : Hid (AllS R2.length R2) := hid (by rw [hr2.1]; exact hs2); have HM2 := hid hm2; have HT2 := hid ht2; clear hr2 hs2 hm2 ht2; have hB2 := below_then hb1 hb2)
      | (go_at_call 22; (with_reducible refine (refmerge_len A2 n c2 R2 _ HR2.out (by omega) HT2.out).mono ?_); rintro r w3 ⟨A3, c3, o3, N, rfl, hm3, hN3, hN4, hc3, hr3, hb3⟩; have HM3 := hid hm3; have HR3 := hid hr3; have HN := hid hN3; clear hm3 hr3 hN3)
      | (go_at_call 15; (with_reducible refine (new_len A2 n c2 R2 _ (HR2.out.below hb3) HA2.out (by omega) HM2.out HT2.out HM3.out).mono ?_); rintro r w6 ⟨w5, A5, c5, rfl, hj5, hb5⟩; have HJ5 := hid hj5; clear hj5)
      | (go_at_call 10; (with_reducible refine (awake_any _).mono ?_); rintro r w9 ⟨rfl, hb9⟩))
    · go_ret
      exact ⟨rfl, below_then hb1 hb9⟩
    · have HSm : Hid (SmallO o3) := fun e he => HM2.out.flat e (HM3.out.perm.mem_iff.1 he)
      have HW : Hid (WSrt o3) := hid (HM3.out.sorted HA2.out)
      have hB5 := below_then hB2 (below_then hb3 hb5)
      clear HM2 HA2 HT2 HM3 HLt
      go_loopw [9, 10] (fun a i wr => ∃ k m : Nat, k ≤ ns ∧ i = .int .i64 k ∧ a = .int .i64 m ∧ IterJ w5 wr A5 c5 o3 m) (fun a i wr => ns - (intOf i).toNat)
      case atStart => exact ⟨0, 0, Nat.zero_le _, rfl, rfl, HJ5.out⟩
      case round =>
        obtain ⟨k, m, hk, rfl, rfl, hj⟩ := hrel
        have HJ := hid hj
        have hB5r := hj.2.2.2.1
        have hmN : m ≤ N := by have := hj.2.2.1; rw [HN.out] at this; exact this
        have hB3r := below_then hb5 hB5r
        have hBr := below_then hB5 hB5r
        clear hj HJ5
        by_cases hlt : k < ns
        · by_cases h100 : k < 100
          · obtain ⟨sa, rfl, hsc⟩ := HSt.out.at_ hlt
            obtain ⟨Ar, nr, cr, k0, k1, kr, kc⟩ := hsc
            have s0 := below_cell hBr k0
            have s1 := below_cell hBr k1
            have HK := hid kr
            have HK1 := hid k1
            clear k0 kr k1
            obtain ⟨sb, hsb⟩ : ∃ sb, (elt noSt ss k).1 = sb := ⟨_, rfl⟩
            obtain ⟨key, hkey⟩ : ∃ key, (elt noSt ss k).2 = key := ⟨_, rfl⟩
            rw [hsb] at s0
            rw [hkey] at HK
            clear hsb hkey
            cases sb
            · rcases Nat.lt_or_ge m N with hm | hm
              · have hdm : decide ((m : Int) < (N : Int)) = true := decide_eq_true (by omega)
                have hmi : (m : Int) < (N : Int) := by omega
                obtain ⟨ml, hml⟩ : ∃ ml, N = m + 1 + ml := ⟨N - (m + 1), by omega⟩
                have hsub : (N : Int) - ((m : Int) + 1) = (ml : Int) := by omega
                have hwl : IntKind.i64.wrap (ml : Int) = (ml : Int) := by rw [IntKind.wrap_i64]; omega
                have HMl := hid hml
                clear hml
                obtain ⟨a3, rfl, hea⟩ := HR3.out.at_ hm
                have HNx := hid (next_any w5 wr A5 c5 o3 m HJ.out (by rw [HN.out]; exact hm) (HSm.out _ (elt_mem (by rw [HN.out]; exact hm))))
                obtain ⟨Ak, na, ca, Av, ma, da, p0, p1, p2, p3, p4, p5, p6, _, _⟩ := hea.below hb5
                generalize elt noEnt o3 m = x at *
                have HA := hid (⟨p5, p6⟩ : _ ∧ _)
                have HP := hid (⟨p0, p1, p2, p3, p4⟩ : _ ∧ _ ∧ _ ∧ _ ∧ _)
                clear hea p0 p1 p2 p3 p4 p5 p6
                go_wp2_with (go_at_call 16; (with_reducible refine HNx.out.mono ?_); rintro r w7 ⟨Kk, nk, ck, Kv, nv, cv, rfl, hk7, hv7, hj7⟩; have HX7 := hid (⟨hk7, hv7, hj7⟩ : _ ∧ _ ∧ _); clear hk7 hv7 hj7)
                have hx8 := heap_alloc_new w7 (.cells #[.slice Kk nk ck, .int .i64 (eSeq x), .bool (eGone x), .int .i64 (eTil x), .slice Kv nv cv] 35)
                have hB78 := below_alloc' (Below.refl w7.heap.size w7) (.cells #[.slice Kk nk ck, .int .i64 (eSeq x), .bool (eGone x), .int .i64 (eTil x), .slice Kv nv cv] 35)
                generalize hW8 : w7.alloc (.cells #[.slice Kk nk ck, .int .i64 (eSeq x), .bool (eGone x), .int .i64 (eTil x), .slice Kv nv cv] 35) = W8 at *
                clear hW8
                have HJ8 := hid (HX7.out.2.2.below hB78)
                have HX := hid (⟨HX7.out.1.below hB78, HX7.out.2.1.below hB78⟩ : _ ∧ _)
                have hB58 := (HX7.out.2.2.below hB78).2.2.2.1
                generalize w7.heap.size = b at *
                have g0 := box_at hx8 0 _ rfl
                have g1 := box_at hx8 1 _ rfl
                have g2 := box_at hx8 2 _ rfl
                have g3 := box_at hx8 3 _ rfl
                have g4 := box_at hx8 4 _ rfl
                have g5 := below_cell hB58 HP.out.1
                have g6 := below_cell hB58 HP.out.2.1
                have g7 := below_cell hB58 HP.out.2.2.1
                have g8 := below_cell hB58 HP.out.2.2.2.1
                have g9 := below_cell hB58 HP.out.2.2.2.2
                clear hx8 hB78 HX7 HP
                go_wp2
                apply wp_region_txt [none, none, none, none, none, none, none, none, none, none, none, none, none, none, none, none, none, none, none, none, none, none, none, none, none, none, none, none, none, none, none, none, none, none, none, none, none, none, none, none, none, none, none, none, none, none, none, none, none, none, none, none, none, none, none, none, none, none, none, none, none, none, none, none, none, none, none, none, none, none, none, none, none, none, none, none, none, none, none, none, none, none, none, none, none, none, none, none, none, none, none, some 0, some 1, some 2, some 3, some 4, some 5, some 6, some 7, some 8, some 9, some 10, some 11, some 12, some 13, some 14, some 15, some 16, some 17, some 18, some 19, some 20, some 21, some 22, some 23, some 24, some 25, some 26, some 27, none, none, none, none, none, none, none, none, none, none, none] [] [] [_, _, _, _, _, _, _, _, _, _, _, _, _, _, _, _, _, _, _, _, _, _, _, _, _, _, _, _] [[], [], [], [], [], [], [], [], [], [], [], [], [], [], [], [], [], [], [], [], [], [], [], [], [], [], [], []]
                case hm => rfl
                case hs => rfl
                case hst => kernel_rfl
                case hput => exact OpsOK.cons (fun _ _ => rfl) (OpsOK.cons (fun _ _ => rfl) (OpsOK.cons (fun _ _ => rfl) (OpsOK.cons (fun _ _ => rfl) (OpsOK.cons (fun _ _ => rfl) (OpsOK.cons (fun _ _ => rfl) (OpsOK.cons (fun _ _ => rfl) (OpsOK.cons (fun _ _ => rfl) (OpsOK.cons (fun _ _ => rfl) (OpsOK.cons (fun _ _ => rfl) (OpsOK.cons (fun _ _ => rfl) (OpsOK.cons (fun _ _ => rfl) (OpsOK.cons (fun _ _ => rfl) (OpsOK.cons (fun _ _ => rfl) (OpsOK.cons (fun _ _ => rfl) (OpsOK.cons (fun _ _ => rfl) (OpsOK.cons (fun _ _ => rfl) (OpsOK.cons (fun _ _ => rfl) (OpsOK.cons (fun _ _ => rfl) (OpsOK.cons (fun _ _ => rfl) (OpsOK.cons (fun _ _ => rfl) (OpsOK.cons (fun _ _ => rfl) (OpsOK.cons (fun _ _ => rfl) (OpsOK.cons (fun _ _ => rfl) (OpsOK.cons (fun _ _ => rfl) (OpsOK.cons (fun _ _ => rfl) (OpsOK.cons (fun _ _ => rfl) (OpsOK.cons (fun _ _ => rfl) (OpsOK.nil))))))))))))))))))))))))))))
                case hops =>
                  refine OpsOK.cons ?_ ?_
                  · intro u W K hB hd hK
                    replace hK := hk_val hK (by decide) (by rfl)
                    clear hd
                    simp only [lay, Act.put, List.setIfInBounds_toArray, List.set_cons_zero, List.set_cons_succ] at hK ⊢
                    go_simp
                    exact hK.out _ _ rfl (Below.refl _ _)
                  refine OpsOK.cons ?_ ?_
                  · intro u W K hB hd hK
                    replace hK := hk_val hK (by decide) (by rfl)
                    clear hd
                    simp only [lay, Act.put, List.setIfInBounds_toArray, List.set_cons_zero, List.set_cons_succ] at hK ⊢
                    go_simp
                    exact hK.out _ _ rfl (Below.refl _ _)
                  refine OpsOK.cons ?_ ?_
                  · intro u W K hB hd hK
                    replace hK := hk_val hK (by decide) (by rfl)
                    clear hd
                    simp only [lay, Act.put, List.setIfInBounds_toArray, List.set_cons_zero, List.set_cons_succ] at hK ⊢
                    go_simp
                    exact hK.out _ _ rfl (Below.refl _ _)
                  refine OpsOK.cons ?_ ?_
                  · intro u W K hB hd hK
                    have h2 := fact_val (dep_of hd 2 (by kernel_rfl) (by kernel_rfl)) (by decide)
                    dsimp only [nth] at h2
                    replace hK := hk_val hK (by decide) (by rfl)
                    clear hd
                    simp only [lay, Act.put, List.setIfInBounds_toArray, List.set_cons_zero, List.set_cons_succ, h2] at hK ⊢
                    go_simp
                    exact hK.out _ _ rfl (Below.refl _ _)
                  refine OpsOK.cons ?_ ?_
                  · intro u W K hB hd hK
                    have h1 := fact_val (dep_of hd 1 (by kernel_rfl) (by kernel_rfl)) (by decide)
                    dsimp only [nth] at h1
                    have h3 := fact_val (dep_of hd 3 (by kernel_rfl) (by kernel_rfl)) (by decide)
                    dsimp only [nth] at h3
                    replace hK := hk_val hK (by decide) (by rfl)
                    clear hd
                    simp only [lay, Act.put, List.setIfInBounds_toArray, List.set_cons_zero, List.set_cons_succ, h1, h3] at hK ⊢
                    go_simp
                    exact hK.out _ _ rfl (Below.refl _ _)
                  refine OpsOK.cons ?_ ?_
                  · intro u W K hB hd hK
                    have h0 := fact_val (dep_of hd 0 (by kernel_rfl) (by kernel_rfl)) (by decide)
                    dsimp only [nth] at h0
                    have h4 := fact_val (dep_of hd 4 (by kernel_rfl) (by kernel_rfl)) (by decide)
                    dsimp only [nth] at h4
                    replace hK := hk_val hK (by decide) (by rfl)
                    clear hd
                    simp only [lay, Act.put, List.setIfInBounds_toArray, List.set_cons_zero, List.set_cons_succ, h0, h4] at hK ⊢
                    go_simp
                    exact hK.out _ _ rfl (Below.refl _ _)
                  refine OpsOK.cons ?_ ?_
                  · intro u W K hB hd hK
                    have h5 := fact_val (dep_of hd 5 (by kernel_rfl) (by kernel_rfl)) (by decide)
                    dsimp only [nth] at h5
                    replace hK := hk_val hK (by decide) (by rfl)
                    clear hd
                    simp only [lay, Act.put, List.setIfInBounds_toArray, List.set_cons_zero, List.set_cons_succ, h5] at hK ⊢
                    go_simp
                    exact hK.out _ _ rfl (Below.refl _ _)
                  refine OpsOK.cons ?_ ?_
                  · intro u W K hB hd hK
                    have h6 := fact_val (dep_of hd 6 (by kernel_rfl) (by kernel_rfl)) (by decide)
                    dsimp only [nth] at h6
                    replace hK := hk_val hK (by decide) (by rfl)
                    clear hd
                    simp only [lay, Act.put, List.setIfInBounds_toArray, List.set_cons_zero, List.set_cons_succ, h6] at hK ⊢
                    go_simp
                    exact hK.out _ _ rfl (Below.refl _ _)
                  refine OpsOK.cons ?_ ?_
                  · intro u W K hB hd hK
                    have h6 := fact_val (dep_of hd 6 (by kernel_rfl) (by kernel_rfl)) (by decide)
                    dsimp only [nth] at h6
                    have h7 := fact_val (dep_of hd 7 (by kernel_rfl) (by kernel_rfl)) (by decide)
                    dsimp only [nth] at h7
                    replace hK := hk_val hK (by decide) (by rfl)
                    clear hd
                    simp only [lay, Act.put, List.setIfInBounds_toArray, List.set_cons_zero, List.set_cons_succ, h6, h7] at hK ⊢
                    go_simp
                    exact hK.out _ _ rfl (Below.refl _ _)
                  refine OpsOK.cons ?_ ?_
                  · intro u W K hB hd hK
                    have h8 := fact_val (dep_of hd 8 (by kernel_rfl) (by kernel_rfl)) (by decide)
                    dsimp only [nth] at h8
                    replace hK := hk_val hK (by decide) (by rfl)
                    clear hd
                    simp only [lay, Act.put, List.setIfInBounds_toArray, List.set_cons_zero, List.set_cons_succ, h8] at hK ⊢
                    have y0 := below_cell hB g0
                    have y1 := below_cell hB g1
                    have y2 := below_cell hB g2
                    have y3 := below_cell hB g3
                    have y4 := below_cell hB g4
                    go_simp
                    exact hK.out _ _ rfl (Below.refl _ _)
                  refine OpsOK.cons ?_ ?_
                  · intro u W K hB hd hK
                    have h8 := fact_val (dep_of hd 8 (by kernel_rfl) (by kernel_rfl)) (by decide)
                    dsimp only [nth] at h8
                    replace hK := hk_val hK (by decide) (by rfl)
                    clear hd
                    simp only [lay, Act.put, List.setIfInBounds_toArray, List.set_cons_zero, List.set_cons_succ, h8] at hK ⊢
                    go_simp
                    exact hK.out _ _ rfl (Below.refl _ _)
                  refine OpsOK.cons ?_ ?_
                  · intro u W K hB hd hK
                    have h8 := fact_val (dep_of hd 8 (by kernel_rfl) (by kernel_rfl)) (by decide)
                    dsimp only [nth] at h8
                    replace hK := hk_val hK (by decide) (by rfl)
                    clear hd
                    simp only [lay, Act.put, List.setIfInBounds_toArray, List.set_cons_zero, List.set_cons_succ, h8] at hK ⊢
                    go_simp
                    exact hK.out _ _ rfl (Below.refl _ _)
                  refine OpsOK.cons ?_ ?_
                  · intro u W K hB hd hK
                    have h8 := fact_val (dep_of hd 8 (by kernel_rfl) (by kernel_rfl)) (by decide)
                    dsimp only [nth] at h8
                    have h10 := fact_val (dep_of hd 10 (by kernel_rfl) (by kernel_rfl)) (by decide)
                    dsimp only [nth] at h10
                    have h11 := fact_val (dep_of hd 11 (by kernel_rfl) (by kernel_rfl)) (by decide)
                    dsimp only [nth] at h11
                    replace hK := hk_val hK (by decide) (by rfl)
                    clear hd
                    simp only [lay, Act.put, List.setIfInBounds_toArray, List.set_cons_zero, List.set_cons_succ, h8, h10, h11] at hK ⊢
                    go_simp
                    exact hK.out _ _ rfl (Below.refl _ _)
                  refine OpsOK.cons ?_ ?_
                  · intro u W K hB hd hK
                    have h8 := fact_val (dep_of hd 8 (by kernel_rfl) (by kernel_rfl)) (by decide)
                    dsimp only [nth] at h8
                    have h12 := fact_val (dep_of hd 12 (by kernel_rfl) (by kernel_rfl)) (by decide)
                    dsimp only [nth] at h12
                    replace hK := hk_val hK (by decide) (by rfl)
                    clear hd
                    simp only [lay, Act.put, List.setIfInBounds_toArray, List.set_cons_zero, List.set_cons_succ, h8, h12] at hK ⊢
                    have y0 := below_cell hB g5
                    have y1 := below_cell hB g6
                    have y2 := below_cell hB g7
                    have y3 := below_cell hB g8
                    have y4 := below_cell hB g9
                    go_simp
                    exact hK.out _ _ rfl (Below.refl _ _)
                  refine OpsOK.cons ?_ ?_
                  · intro u W K hB hd hK
                    have h8 := fact_val (dep_of hd 8 (by kernel_rfl) (by kernel_rfl)) (by decide)
                    dsimp only [nth] at h8
                    have h9 := fact_val (dep_of hd 9 (by kernel_rfl) (by kernel_rfl)) (by decide)
                    dsimp only [nth] at h9
                    have h13 := fact_val (dep_of hd 13 (by kernel_rfl) (by kernel_rfl)) (by decide)
                    dsimp only [nth] at h13
                    replace hK := hk_val hK (by decide) (by rfl)
                    clear hd
                    simp only [lay, Act.put, List.setIfInBounds_toArray, List.set_cons_zero, List.set_cons_succ, h8, h9, h13] at hK ⊢
                    go_simp
                    first
                      | (go_at_call 17; (with_reducible refine (sameentry_any Kk nk ck Kv nv cv Ak na ca Av ma da (eSeq x) (eGone x) (eTil x) (eKey x) (eVal x) W (HX.out.1.below hB) (HX.out.2.below hB) (HA.out.1.below (below_then hB58 hB)) (HA.out.2.below (below_then hB58 hB))).mono ?_); rintro r w9 ⟨rfl, hb⟩; exact hK.out _ _ rfl hb)
                      | exact hK.out _ _ rfl (Below.refl _ _)
                  refine OpsOK.cons ?_ ?_
                  · intro u W K hB hd hK
                    have h8 := fact_val (dep_of hd 8 (by kernel_rfl) (by kernel_rfl)) (by decide)
                    dsimp only [nth] at h8
                    have h14 := fact_val (dep_of hd 14 (by kernel_rfl) (by kernel_rfl)) (by decide)
                    dsimp only [nth] at h14
                    replace hK := hk_val hK (by decide) (by rfl)
                    clear hd
                    simp only [lay, Act.put, List.setIfInBounds_toArray, List.set_cons_zero, List.set_cons_succ, h8, h14] at hK ⊢
                    go_simp
                    exact hK.out _ _ rfl (Below.refl _ _)
                  refine OpsOK.cons ?_ ?_
                  · intro u W K hB hd hK
                    have h6 := fact_val (dep_of hd 6 (by kernel_rfl) (by kernel_rfl)) (by decide)
                    dsimp only [nth] at h6
                    have h8 := fact_val (dep_of hd 8 (by kernel_rfl) (by kernel_rfl)) (by decide)
                    dsimp only [nth] at h8
                    have h15 := fact_val (dep_of hd 15 (by kernel_rfl) (by kernel_rfl)) (by decide)
                    dsimp only [nth] at h15
                    replace hK := hk_val hK (by decide) (by rfl)
                    clear hd
                    simp only [lay, Act.put, List.setIfInBounds_toArray, List.set_cons_zero, List.set_cons_succ, h6, h8, h15] at hK ⊢
                    go_simp
                    exact hK.out _ _ rfl (Below.refl _ _)
                  refine OpsOK.cons ?_ ?_
                  · intro u W K hB hd hK
                    have h6 := fact_val (dep_of hd 6 (by kernel_rfl) (by kernel_rfl)) (by decide)
                    dsimp only [nth] at h6
                    have h16 := fact_val (dep_of hd 16 (by kernel_rfl) (by kernel_rfl)) (by decide)
                    dsimp only [nth] at h16
                    replace hK := hk_val hK (by decide) (by rfl)
                    clear hd
                    simp only [lay, Act.put, List.setIfInBounds_toArray, List.set_cons_zero, List.set_cons_succ, h6, h16] at hK ⊢
                    go_simp
                    exact hK.out _ _ rfl (Below.refl _ _)
                  refine OpsOK.cons ?_ ?_
                  · intro u W K hB hd hK
                    have h14 := fact_val (dep_of hd 14 (by kernel_rfl) (by kernel_rfl)) (by decide)
                    dsimp only [nth] at h14
                    have h17 := fact_val (dep_of hd 17 (by kernel_rfl) (by kernel_rfl)) (by decide)
                    dsimp only [nth] at h17
                    replace hK := hk_val hK (by decide) (by rfl)
                    clear hd
                    simp only [lay, Act.put, List.setIfInBounds_toArray, List.set_cons_zero, List.set_cons_succ, h14, h17] at hK ⊢
                    go_simp
                    exact hK.out _ _ rfl (Below.refl _ _)
                  refine OpsOK.cons ?_ ?_
                  · intro u W K hB hd hK
                    have h18 := fact_val (dep_of hd 18 (by kernel_rfl) (by kernel_rfl)) (by decide)
                    dsimp only [nth] at h18
                    replace hK := hk_val hK (by decide) (by rfl)
                    clear hd
                    simp only [lay, Act.put, List.setIfInBounds_toArray, List.set_cons_zero, List.set_cons_succ, h18] at hK ⊢
                    go_simp
                    exact hK.out _ _ rfl (Below.refl _ _)
                  refine OpsOK.cons ?_ ?_
                  · intro u W K hB hd hK
                    have h18 := fact_val (dep_of hd 18 (by kernel_rfl) (by kernel_rfl)) (by decide)
                    dsimp only [nth] at h18
                    have h19 := fact_val (dep_of hd 19 (by kernel_rfl) (by kernel_rfl)) (by decide)
                    dsimp only [nth] at h19
                    replace hK := hk_val hK (by decide) (by rfl)
                    clear hd
                    simp only [lay, Act.put, List.setIfInBounds_toArray, List.set_cons_zero, List.set_cons_succ, h18, h19] at hK ⊢
                    go_simp
                    exact hK.out _ _ rfl (Below.refl _ _)
                  refine OpsOK.cons ?_ ?_
                  · intro u W K hB hd hK
                    have h18 := fact_val (dep_of hd 18 (by kernel_rfl) (by kernel_rfl)) (by decide)
                    dsimp only [nth] at h18
                    have h20 := fact_val (dep_of hd 20 (by kernel_rfl) (by kernel_rfl)) (by decide)
                    dsimp only [nth] at h20
                    replace hK := hk_val hK (by decide) (by rfl)
                    clear hd
                    simp only [lay, Act.put, List.setIfInBounds_toArray, List.set_cons_zero, List.set_cons_succ, h18, h20] at hK ⊢
                    go_simp
                    exact hK.out _ _ rfl (Below.refl _ _)
                  refine OpsOK.cons ?_ ?_
                  · intro u W K hB hd hK
                    have h21 := fact_val (dep_of hd 21 (by kernel_rfl) (by kernel_rfl)) (by decide)
                    dsimp only [nth] at h21
                    replace hK := hk_val hK (by decide) (by rfl)
                    clear hd
                    simp only [lay, Act.put, List.setIfInBounds_toArray, List.set_cons_zero, List.set_cons_succ, h21] at hK ⊢
                    go_simp
                    exact hK.out _ _ rfl (Below.refl _ _)
                  refine OpsOK.cons ?_ ?_
                  · intro u W K hB hd hK
                    have h21 := fact_val (dep_of hd 21 (by kernel_rfl) (by kernel_rfl)) (by decide)
                    dsimp only [nth] at h21
                    replace hK := hk_val hK (by decide) (by rfl)
                    clear hd
                    simp only [lay, Act.put, List.setIfInBounds_toArray, List.set_cons_zero, List.set_cons_succ, h21] at hK ⊢
                    go_simp
                    exact hK.out _ _ rfl (Below.refl _ _)
                  refine OpsOK.cons ?_ ?_
                  · intro u W K hB hd hK
                    have h21 := fact_val (dep_of hd 21 (by kernel_rfl) (by kernel_rfl)) (by decide)
                    dsimp only [nth] at h21
                    have h22 := fact_val (dep_of hd 22 (by kernel_rfl) (by kernel_rfl)) (by decide)
                    dsimp only [nth] at h22
                    have h23 := fact_val (dep_of hd 23 (by kernel_rfl) (by kernel_rfl)) (by decide)
                    dsimp only [nth] at h23
                    replace hK := hk_val hK (by decide) (by rfl)
                    clear hd
                    simp only [lay, Act.put, List.setIfInBounds_toArray, List.set_cons_zero, List.set_cons_succ, h21, h22, h23] at hK ⊢
                    go_simp
                    first
                      | (go_at_call 17; (with_reducible refine (sameentry_any Kk nk ck Kv nv cv Ak na ca Av ma da (eSeq x) (eGone x) (eTil x) (eKey x) (eVal x) W (HX.out.1.below hB) (HX.out.2.below hB) (HA.out.1.below (below_then hB58 hB)) (HA.out.2.below (below_then hB58 hB))).mono ?_); rintro r w9 ⟨rfl, hb⟩; exact hK.out _ _ rfl hb)
                      | exact hK.out _ _ rfl (Below.refl _ _)
                  refine OpsOK.cons ?_ ?_
                  · intro u W K hB hd hK
                    have h21 := fact_val (dep_of hd 21 (by kernel_rfl) (by kernel_rfl)) (by decide)
                    dsimp only [nth] at h21
                    have h24 := fact_val (dep_of hd 24 (by kernel_rfl) (by kernel_rfl)) (by decide)
                    dsimp only [nth] at h24
                    replace hK := hk_val hK (by decide) (by rfl)
                    clear hd
                    simp only [lay, Act.put, List.setIfInBounds_toArray, List.set_cons_zero, List.set_cons_succ, h21, h24] at hK ⊢
                    go_simp
                    exact hK.out _ _ rfl (Below.refl _ _)
                  refine OpsOK.cons ?_ ?_
                  · intro u W K hB hd hK
                    have h18 := fact_val (dep_of hd 18 (by kernel_rfl) (by kernel_rfl)) (by decide)
                    dsimp only [nth] at h18
                    have h21 := fact_val (dep_of hd 21 (by kernel_rfl) (by kernel_rfl)) (by decide)
                    dsimp only [nth] at h21
                    have h25 := fact_val (dep_of hd 25 (by kernel_rfl) (by kernel_rfl)) (by decide)
                    dsimp only [nth] at h25
                    replace hK := hk_val hK (by decide) (by rfl)
                    clear hd
                    simp only [lay, Act.put, List.setIfInBounds_toArray, List.set_cons_zero, List.set_cons_succ, h18, h21, h25] at hK ⊢
                    go_simp
                    exact hK.out _ _ rfl (Below.refl _ _)
                  refine OpsOK.cons ?_ ?_
                  · intro u W K hB hd hK
                    have h18 := fact_val (dep_of hd 18 (by kernel_rfl) (by kernel_rfl)) (by decide)
                    dsimp only [nth] at h18
                    have h26 := fact_val (dep_of hd 26 (by kernel_rfl) (by kernel_rfl)) (by decide)
                    dsimp only [nth] at h26
                    replace hK := hk_val hK (by decide) (by rfl)
                    clear hd
                    simp only [lay, Act.put, List.setIfInBounds_toArray, List.set_cons_zero, List.set_cons_succ, h18, h26] at hK ⊢
                    go_simp
                    exact hK.out _ _ rfl (Below.refl _ _)
                  exact OpsOK.nil
                intro u W hB hf
                have h0 := fact_val (hf 0 (by decide) (by decide)) (by decide)
                dsimp only [nth] at h0
                have h1 := fact_val (hf 1 (by decide) (by decide)) (by decide)
                dsimp only [nth] at h1
                have h2 := fact_val (hf 2 (by decide) (by decide)) (by decide)
                dsimp only [nth] at h2
                have h3 := fact_val (hf 3 (by decide) (by decide)) (by decide)
                dsimp only [nth] at h3
                have h4 := fact_val (hf 4 (by decide) (by decide)) (by decide)
                dsimp only [nth] at h4
                have h5 := fact_val (hf 5 (by decide) (by decide)) (by decide)
                dsimp only [nth] at h5
                have h6 := fact_val (hf 6 (by decide) (by decide)) (by decide)
                dsimp only [nth] at h6
                have h7 := fact_val (hf 7 (by decide) (by decide)) (by decide)
                dsimp only [nth] at h7
                have h8 := fact_val (hf 8 (by decide) (by decide)) (by decide)
                dsimp only [nth] at h8
                have h9 := fact_val (hf 9 (by decide) (by decide)) (by decide)
                dsimp only [nth] at h9
                have h10 := fact_val (hf 10 (by decide) (by decide)) (by decide)
                dsimp only [nth] at h10
                have h11 := fact_val (hf 11 (by decide) (by decide)) (by decide)
                dsimp only [nth] at h11
                have h12 := fact_val (hf 12 (by decide) (by decide)) (by decide)
                dsimp only [nth] at h12
                have h13 := fact_val (hf 13 (by decide) (by decide)) (by decide)
                dsimp only [nth] at h13
                have h14 := fact_val (hf 14 (by decide) (by decide)) (by decide)
                dsimp only [nth] at h14
                have h15 := fact_val (hf 15 (by decide) (by decide)) (by decide)
                dsimp only [nth] at h15
                have h16 := fact_val (hf 16 (by decide) (by decide)) (by decide)
                dsimp only [nth] at h16
                have h17 := fact_val (hf 17 (by decide) (by decide)) (by decide)
                dsimp only [nth] at h17
                have h18 := fact_val (hf 18 (by decide) (by decide)) (by decide)
                dsimp only [nth] at h18
                have h19 := fact_val (hf 19 (by decide) (by decide)) (by decide)
                dsimp only [nth] at h19
                have h20 := fact_val (hf 20 (by decide) (by decide)) (by decide)
                dsimp only [nth] at h20
                have h21 := fact_val (hf 21 (by decide) (by decide)) (by decide)
                dsimp only [nth] at h21
                have h22 := fact_val (hf 22 (by decide) (by decide)) (by decide)
                dsimp only [nth] at h22
                have h23 := fact_val (hf 23 (by decide) (by decide)) (by decide)
                dsimp only [nth] at h23
                have h24 := fact_val (hf 24 (by decide) (by decide)) (by decide)
                dsimp only [nth] at h24
                have h25 := fact_val (hf 25 (by decide) (by decide)) (by decide)
                dsimp only [nth] at h25
                have h26 := fact_val (hf 26 (by decide) (by decide)) (by decide)
                dsimp only [nth] at h26
                have h27 := fact_val (hf 27 (by decide) (by decide)) (by decide)
                dsimp only [nth] at h27
                clear hf
                simp only [lay, h0, h1, h2, h3, h4, h5, h6, h7, h8, h9, h10, h11, h12, h13, h14, h15, h16, h17, h18, h19, h20, h21, h22, h23, h24, h25, h26, h27]
                clear h0 h1 h2 h3 h4 h5 h6 h7 h8 h9 h10 h11 h12 h13 h14 h15 h16 h17 h18 h19 h20 h21 h22 h23 h24 h25 h26 h27
                go_wp2_with (go_at_call 21; (with_reducible refine (left_any w5 _ A5 c5 o3 (m + 1) ml (HJ8.out.below hB) (by rw [HN.out]; exact HMl.out)).mono ?_); rintro r w10 ⟨rfl, hb10⟩)
                go_roundw
                case rel => exact ⟨k + 1, m + 1, by omega, by go_num, by go_num, (HJ8.out.below hB).below hb10⟩
                case measure => simp [intOf]; omega
              · have hdm : decide ((m : Int) < (N : Int)) = false := decide_eq_false (by omega)
                have hmi : ¬ (m : Int) < (N : Int) := by omega
                have hmi2 : ¬ m < N := by omega
                have hsub : (N : Int) - (m : Int) = ((0 : Nat) : Int) := by omega
                have HNx := hid (next_end w5 wr A5 c5 o3 m HJ.out (by rw [HN.out]; omega))
                go_wp2_with (go_at_call 16; (with_reducible refine HNx.out.mono ?_); rintro r w7 ⟨rfl, hb7⟩)
                have hx8 := heap_alloc_new w7 (.cells #[.slice none 0 0, .int .i64 0, .bool false, .int .i64 0, .slice none 0 0] 35)
                have hB78 := below_alloc' (Below.refl w7.heap.size w7) (.cells #[.slice none 0 0, .int .i64 0, .bool false, .int .i64 0, .slice none 0 0] 35)
                generalize hW8 : w7.alloc (.cells #[.slice none 0 0, .int .i64 0, .bool false, .int .i64 0, .slice none 0 0] 35) = W8 at *
                clear hW8
                have HJ8 := hid ((HJ.out.below hb7).below hB78)
                generalize w7.heap.size = b at *
                have g0 := box_at hx8 0 _ rfl
                have g1 := box_at hx8 1 _ rfl
                have g2 := box_at hx8 2 _ rfl
                have g3 := box_at hx8 3 _ rfl
                have g4 := box_at hx8 4 _ rfl
                clear hx8 hB78
                go_wp2
                apply wp_region_txt [none, none, none, none, none, none, none, none, none, none, none, none, none, none, none, none, none, none, none, none, none, none, none, none, none, none, none, none, none, none, none, none, none, none, none, none, none, none, none, none, none, none, none, none, none, none, none, none, none, none, none, none, none, none, none, none, none, none, none, none, none, none, none, none, none, none, none, none, none, none, none, none, none, none, none, none, none, none, none, none, none, none, none, none, none, none, none, none, none, none, none, some 0, some 1, some 2, some 3, some 4, some 5, some 6, some 7, some 8, some 9, some 10, some 11, some 12, some 13, some 14, some 15, some 16, some 17, some 18, some 19, some 20, some 21, some 22, some 23, some 24, some 25, some 26, some 27, none, none, none, none, none, none, none, none, none, none, none] [] [] [_, _, _, _, _, _, _, _, _, _, _, _, _, _, _, _, _, _, _, _, _, _, _, _, _, _, _, _] [[], [], [], [], [], [], [], [], [], [], [], [], [], [], [], [], [], [], [], [], [], [], [], [], [], [], [], []]
                case hm => rfl
                case hs => rfl
                case hst => kernel_rfl
                case hput => exact OpsOK.cons (fun _ _ => rfl) (OpsOK.cons (fun _ _ => rfl) (OpsOK.cons (fun _ _ => rfl) (OpsOK.cons (fun _ _ => rfl) (OpsOK.cons (fun _ _ => rfl) (OpsOK.cons (fun _ _ => rfl) (OpsOK.cons (fun _ _ => rfl) (OpsOK.cons (fun _ _ => rfl) (OpsOK.cons (fun _ _ => rfl) (OpsOK.cons (fun _ _ => rfl) (OpsOK.cons (fun _ _ => rfl) (OpsOK.cons (fun _ _ => rfl) (OpsOK.cons (fun _ _ => rfl) (OpsOK.cons (fun _ _ => rfl) (OpsOK.cons (fun _ _ => rfl) (OpsOK.cons (fun _ _ => rfl) (OpsOK.cons (fun _ _ => rfl) (OpsOK.cons (fun _ _ => rfl) (OpsOK.cons (fun _ _ => rfl) (OpsOK.cons (fun _ _ => rfl) (OpsOK.cons (fun _ _ => rfl) (OpsOK.cons (fun _ _ => rfl) (OpsOK.cons (fun _ _ => rfl) (OpsOK.cons (fun _ _ => rfl) (OpsOK.cons (fun _ _ => rfl) (OpsOK.cons (fun _ _ => rfl) (OpsOK.cons (fun _ _ => rfl) (OpsOK.cons (fun _ _ => rfl) (OpsOK.nil))))))))))))))))))))))))))))
                case hops =>
                  refine OpsOK.cons ?_ ?_
                  · intro u W K hB hd hK
                    replace hK := hk_val hK (by decide) (by rfl)
                    clear hd
                    simp only [lay, Act.put, List.setIfInBounds_toArray, List.set_cons_zero, List.set_cons_succ] at hK ⊢
                    go_simp
                    exact hK.out _ _ rfl (Below.refl _ _)
                  refine OpsOK.cons ?_ ?_
                  · intro u W K hB hd hK
                    replace hK := hk_val hK (by decide) (by rfl)
                    clear hd
                    simp only [lay, Act.put, List.setIfInBounds_toArray, List.set_cons_zero, List.set_cons_succ] at hK ⊢
                    go_simp
                    exact hK.out _ _ rfl (Below.refl _ _)
                  refine OpsOK.cons ?_ ?_
                  · intro u W K hB hd hK
                    replace hK := hk_val hK (by decide) (by rfl)
                    clear hd
                    simp only [lay, Act.put, List.setIfInBounds_toArray, List.set_cons_zero, List.set_cons_succ] at hK ⊢
                    go_simp
                    exact hK.out _ _ rfl (Below.refl _ _)
                  refine OpsOK.cons ?_ ?_
                  · intro u W K hB hd hK
                    have h2 := fact_val (dep_of hd 2 (by kernel_rfl) (by kernel_rfl)) (by decide)
                    dsimp only [nth] at h2
                    replace hK := hk_val hK (by decide) (by rfl)
                    clear hd
                    simp only [lay, Act.put, List.setIfInBounds_toArray, List.set_cons_zero, List.set_cons_succ, h2] at hK ⊢
                    go_simp
                    exact hK.out _ _ rfl (Below.refl _ _)
                  refine OpsOK.cons ?_ ?_
                  · intro u W K hB hd hK
                    have h1 := fact_val (dep_of hd 1 (by kernel_rfl) (by kernel_rfl)) (by decide)
                    dsimp only [nth] at h1
                    have h3 := fact_val (dep_of hd 3 (by kernel_rfl) (by kernel_rfl)) (by decide)
                    dsimp only [nth] at h3
                    replace hK := hk_val hK (by decide) (by rfl)
                    clear hd
                    simp only [lay, Act.put, List.setIfInBounds_toArray, List.set_cons_zero, List.set_cons_succ, h1, h3] at hK ⊢
                    go_simp
                    exact hK.out _ _ rfl (Below.refl _ _)
                  refine OpsOK.cons ?_ ?_
                  · intro u W K hB hd hK
                    have h0 := fact_val (dep_of hd 0 (by kernel_rfl) (by kernel_rfl)) (by decide)
                    dsimp only [nth] at h0
                    have h4 := fact_val (dep_of hd 4 (by kernel_rfl) (by kernel_rfl)) (by decide)
                    dsimp only [nth] at h4
                    replace hK := hk_val hK (by decide) (by rfl)
                    clear hd
                    simp only [lay, Act.put, List.setIfInBounds_toArray, List.set_cons_zero, List.set_cons_succ, h0, h4] at hK ⊢
                    go_simp
                    exact hK.out _ _ rfl (Below.refl _ _)
                  refine OpsOK.cons ?_ ?_
                  · intro u W K hB hd hK
                    have h5 := fact_val (dep_of hd 5 (by kernel_rfl) (by kernel_rfl)) (by decide)
                    dsimp only [nth] at h5
                    replace hK := hk_val hK (by decide) (by rfl)
                    clear hd
                    simp only [lay, Act.put, List.setIfInBounds_toArray, List.set_cons_zero, List.set_cons_succ, h5] at hK ⊢
                    go_simp
                    exact hK.out _ _ rfl (Below.refl _ _)
                  refine OpsOK.cons ?_ ?_
                  · intro u W K hB hd hK
                    have h6 := fact_val (dep_of hd 6 (by kernel_rfl) (by kernel_rfl)) (by decide)
                    dsimp only [nth] at h6
                    replace hK := hk_val hK (by decide) (by rfl)
                    clear hd
                    simp only [lay, Act.put, List.setIfInBounds_toArray, List.set_cons_zero, List.set_cons_succ, h6] at hK ⊢
                    go_simp
                    exact hK.out _ _ rfl (Below.refl _ _)
                  refine OpsOK.cons ?_ ?_
                  · intro u W K hB hd hK
                    have h6 := fact_val (dep_of hd 6 (by kernel_rfl) (by kernel_rfl)) (by decide)
                    dsimp only [nth] at h6
                    have h7 := fact_val (dep_of hd 7 (by kernel_rfl) (by kernel_rfl)) (by decide)
                    dsimp only [nth] at h7
                    replace hK := hk_val hK (by decide) (by rfl)
                    clear hd
                    simp only [lay, Act.put, List.setIfInBounds_toArray, List.set_cons_zero, List.set_cons_succ, h6, h7] at hK ⊢
                    go_simp
                    exact hK.out _ _ rfl (Below.refl _ _)
                  refine OpsOK.cons ?_ ?_
                  · intro u W K hB hd hK
                    have h8 := fact_val (dep_of hd 8 (by kernel_rfl) (by kernel_rfl)) (by decide)
                    dsimp only [nth] at h8
                    replace hK := hk_val hK (by decide) (by rfl)
                    clear hd
                    simp only [lay, Act.put, List.setIfInBounds_toArray, List.set_cons_zero, List.set_cons_succ, h8] at hK ⊢
                    go_simp
                    exact hK.out _ _ rfl (Below.refl _ _)
                  refine OpsOK.cons ?_ ?_
                  · intro u W K hB hd hK
                    have h8 := fact_val (dep_of hd 8 (by kernel_rfl) (by kernel_rfl)) (by decide)
                    dsimp only [nth] at h8
                    replace hK := hk_val hK (by decide) (by rfl)
                    clear hd
                    simp only [lay, Act.put, List.setIfInBounds_toArray, List.set_cons_zero, List.set_cons_succ, h8] at hK ⊢
                    go_simp
                    exact hK.out _ _ rfl (Below.refl _ _)
                  refine OpsOK.cons ?_ ?_
                  · intro u W K hB hd hK
                    have h8 := fact_val (dep_of hd 8 (by kernel_rfl) (by kernel_rfl)) (by decide)
                    dsimp only [nth] at h8
                    replace hK := hk_val hK (by decide) (by rfl)
                    clear hd
                    simp only [lay, Act.put, List.setIfInBounds_toArray, List.set_cons_zero, List.set_cons_succ, h8] at hK ⊢
                    go_simp
                    exact hK.out _ _ rfl (Below.refl _ _)
                  refine OpsOK.cons ?_ ?_
                  · intro u W K hB hd hK
                    have h8 := fact_val (dep_of hd 8 (by kernel_rfl) (by kernel_rfl)) (by decide)
                    dsimp only [nth] at h8
                    have h10 := fact_val (dep_of hd 10 (by kernel_rfl) (by kernel_rfl)) (by decide)
                    dsimp only [nth] at h10
                    have h11 := fact_val (dep_of hd 11 (by kernel_rfl) (by kernel_rfl)) (by decide)
                    dsimp only [nth] at h11
                    replace hK := hk_val hK (by decide) (by rfl)
                    clear hd
                    simp only [lay, Act.put, List.setIfInBounds_toArray, List.set_cons_zero, List.set_cons_succ, h8, h10, h11] at hK ⊢
                    go_simp
                    exact hK.out _ _ rfl (Below.refl _ _)
                  refine OpsOK.cons ?_ ?_
                  · intro u W K hB hd hK
                    have h8 := fact_val (dep_of hd 8 (by kernel_rfl) (by kernel_rfl)) (by decide)
                    dsimp only [nth] at h8
                    have h12 := fact_val (dep_of hd 12 (by kernel_rfl) (by kernel_rfl)) (by decide)
                    dsimp only [nth] at h12
                    replace hK := hk_val hK (by decide) (by rfl)
                    clear hd
                    simp only [lay, Act.put, List.setIfInBounds_toArray, List.set_cons_zero, List.set_cons_succ, h8, h12] at hK ⊢
                    go_simp
                    exact hK.out _ _ rfl (Below.refl _ _)
                  refine OpsOK.cons ?_ ?_
                  · intro u W K hB hd hK
                    have h8 := fact_val (dep_of hd 8 (by kernel_rfl) (by kernel_rfl)) (by decide)
                    dsimp only [nth] at h8
                    have h9 := fact_val (dep_of hd 9 (by kernel_rfl) (by kernel_rfl)) (by decide)
                    dsimp only [nth] at h9
                    have h13 := fact_val (dep_of hd 13 (by kernel_rfl) (by kernel_rfl)) (by decide)
                    dsimp only [nth] at h13
                    replace hK := hk_val hK (by decide) (by rfl)
                    clear hd
                    simp only [lay, Act.put, List.setIfInBounds_toArray, List.set_cons_zero, List.set_cons_succ, h8, h9, h13] at hK ⊢
                    go_simp
                    first
                      | (go_at_call 17; (with_reducible refine (sameentry_any none 0 0 none 0 0 none 0 0 none 0 0 0 false 0 [] [] W (RB.nil _) (RB.nil _) (RB.nil _) (RB.nil _)).mono ?_); rintro r w9 ⟨rfl, hb⟩; exact hK.out _ _ rfl hb)
                      | exact hK.out _ _ rfl (Below.refl _ _)
                  refine OpsOK.cons ?_ ?_
                  · intro u W K hB hd hK
                    have h8 := fact_val (dep_of hd 8 (by kernel_rfl) (by kernel_rfl)) (by decide)
                    dsimp only [nth] at h8
                    have h14 := fact_val (dep_of hd 14 (by kernel_rfl) (by kernel_rfl)) (by decide)
                    dsimp only [nth] at h14
                    replace hK := hk_val hK (by decide) (by rfl)
                    clear hd
                    simp only [lay, Act.put, List.setIfInBounds_toArray, List.set_cons_zero, List.set_cons_succ, h8, h14] at hK ⊢
                    go_simp
                    exact hK.out _ _ rfl (Below.refl _ _)
                  refine OpsOK.cons ?_ ?_
                  · intro u W K hB hd hK
                    have h6 := fact_val (dep_of hd 6 (by kernel_rfl) (by kernel_rfl)) (by decide)
                    dsimp only [nth] at h6
                    have h8 := fact_val (dep_of hd 8 (by kernel_rfl) (by kernel_rfl)) (by decide)
                    dsimp only [nth] at h8
                    have h15 := fact_val (dep_of hd 15 (by kernel_rfl) (by kernel_rfl)) (by decide)
                    dsimp only [nth] at h15
                    replace hK := hk_val hK (by decide) (by rfl)
                    clear hd
                    simp only [lay, Act.put, List.setIfInBounds_toArray, List.set_cons_zero, List.set_cons_succ, h6, h8, h15] at hK ⊢
                    go_simp
                    exact hK.out _ _ rfl (Below.refl _ _)
                  refine OpsOK.cons ?_ ?_
                  · intro u W K hB hd hK
                    have h6 := fact_val (dep_of hd 6 (by kernel_rfl) (by kernel_rfl)) (by decide)
                    dsimp only [nth] at h6
                    have h16 := fact_val (dep_of hd 16 (by kernel_rfl) (by kernel_rfl)) (by decide)
                    dsimp only [nth] at h16
                    replace hK := hk_val hK (by decide) (by rfl)
                    clear hd
                    simp only [lay, Act.put, List.setIfInBounds_toArray, List.set_cons_zero, List.set_cons_succ, h6, h16] at hK ⊢
                    go_simp
                    exact hK.out _ _ rfl (Below.refl _ _)
                  refine OpsOK.cons ?_ ?_
                  · intro u W K hB hd hK
                    have h14 := fact_val (dep_of hd 14 (by kernel_rfl) (by kernel_rfl)) (by decide)
                    dsimp only [nth] at h14
                    have h17 := fact_val (dep_of hd 17 (by kernel_rfl) (by kernel_rfl)) (by decide)
                    dsimp only [nth] at h17
                    replace hK := hk_val hK (by decide) (by rfl)
                    clear hd
                    simp only [lay, Act.put, List.setIfInBounds_toArray, List.set_cons_zero, List.set_cons_succ, h14, h17] at hK ⊢
                    go_simp
                    exact hK.out _ _ rfl (Below.refl _ _)
                  refine OpsOK.cons ?_ ?_
                  · intro u W K hB hd hK
                    have h18 := fact_val (dep_of hd 18 (by kernel_rfl) (by kernel_rfl)) (by decide)
                    dsimp only [nth] at h18
                    replace hK := hk_val hK (by decide) (by rfl)
                    clear hd
                    simp only [lay, Act.put, List.setIfInBounds_toArray, List.set_cons_zero, List.set_cons_succ, h18] at hK ⊢
                    go_simp
                    exact hK.out _ _ rfl (Below.refl _ _)
                  refine OpsOK.cons ?_ ?_
                  · intro u W K hB hd hK
                    have h18 := fact_val (dep_of hd 18 (by kernel_rfl) (by kernel_rfl)) (by decide)
                    dsimp only [nth] at h18
                    have h19 := fact_val (dep_of hd 19 (by kernel_rfl) (by kernel_rfl)) (by decide)
                    dsimp only [nth] at h19
                    replace hK := hk_val hK (by decide) (by rfl)
                    clear hd
                    simp only [lay, Act.put, List.setIfInBounds_toArray, List.set_cons_zero, List.set_cons_succ, h18, h19] at hK ⊢
                    go_simp
                    exact hK.out _ _ rfl (Below.refl _ _)
                  refine OpsOK.cons ?_ ?_
                  · intro u W K hB hd hK
                    have h18 := fact_val (dep_of hd 18 (by kernel_rfl) (by kernel_rfl)) (by decide)
                    dsimp only [nth] at h18
                    have h20 := fact_val (dep_of hd 20 (by kernel_rfl) (by kernel_rfl)) (by decide)
                    dsimp only [nth] at h20
                    replace hK := hk_val hK (by decide) (by rfl)
                    clear hd
                    simp only [lay, Act.put, List.setIfInBounds_toArray, List.set_cons_zero, List.set_cons_succ, h18, h20] at hK ⊢
                    go_simp
                    exact hK.out _ _ rfl (Below.refl _ _)
                  refine OpsOK.cons ?_ ?_
                  · intro u W K hB hd hK
                    have h21 := fact_val (dep_of hd 21 (by kernel_rfl) (by kernel_rfl)) (by decide)
                    dsimp only [nth] at h21
                    replace hK := hk_val hK (by decide) (by rfl)
                    clear hd
                    simp only [lay, Act.put, List.setIfInBounds_toArray, List.set_cons_zero, List.set_cons_succ, h21] at hK ⊢
                    have y0 := below_cell hB g0
                    have y1 := below_cell hB g1
                    have y2 := below_cell hB g2
                    have y3 := below_cell hB g3
                    have y4 := below_cell hB g4
                    go_simp
                    exact hK.out _ _ rfl (Below.refl _ _)
                  refine OpsOK.cons ?_ ?_
                  · intro u W K hB hd hK
                    have h21 := fact_val (dep_of hd 21 (by kernel_rfl) (by kernel_rfl)) (by decide)
                    dsimp only [nth] at h21
                    replace hK := hk_val hK (by decide) (by rfl)
                    clear hd
                    simp only [lay, Act.put, List.setIfInBounds_toArray, List.set_cons_zero, List.set_cons_succ, h21] at hK ⊢
                    go_simp
                    exact hK.out _ _ rfl (Below.refl _ _)
                  refine OpsOK.cons ?_ ?_
                  · intro u W K hB hd hK
                    have h21 := fact_val (dep_of hd 21 (by kernel_rfl) (by kernel_rfl)) (by decide)
                    dsimp only [nth] at h21
                    have h22 := fact_val (dep_of hd 22 (by kernel_rfl) (by kernel_rfl)) (by decide)
                    dsimp only [nth] at h22
                    have h23 := fact_val (dep_of hd 23 (by kernel_rfl) (by kernel_rfl)) (by decide)
                    dsimp only [nth] at h23
                    replace hK := hk_val hK (by decide) (by rfl)
                    clear hd
                    simp only [lay, Act.put, List.setIfInBounds_toArray, List.set_cons_zero, List.set_cons_succ, h21, h22, h23] at hK ⊢
                    go_simp
                    first
                      | (go_at_call 17; (with_reducible refine (sameentry_any none 0 0 none 0 0 none 0 0 none 0 0 0 false 0 [] [] W (RB.nil _) (RB.nil _) (RB.nil _) (RB.nil _)).mono ?_); rintro r w9 ⟨rfl, hb⟩; exact hK.out _ _ rfl hb)
                      | exact hK.out _ _ rfl (Below.refl _ _)
                  refine OpsOK.cons ?_ ?_
                  · intro u W K hB hd hK
                    have h21 := fact_val (dep_of hd 21 (by kernel_rfl) (by kernel_rfl)) (by decide)
                    dsimp only [nth] at h21
                    have h24 := fact_val (dep_of hd 24 (by kernel_rfl) (by kernel_rfl)) (by decide)
                    dsimp only [nth] at h24
                    replace hK := hk_val hK (by decide) (by rfl)
                    clear hd
                    simp only [lay, Act.put, List.setIfInBounds_toArray, List.set_cons_zero, List.set_cons_succ, h21, h24] at hK ⊢
                    go_simp
                    exact hK.out _ _ rfl (Below.refl _ _)
                  refine OpsOK.cons ?_ ?_
                  · intro u W K hB hd hK
                    have h18 := fact_val (dep_of hd 18 (by kernel_rfl) (by kernel_rfl)) (by decide)
                    dsimp only [nth] at h18
                    have h21 := fact_val (dep_of hd 21 (by kernel_rfl) (by kernel_rfl)) (by decide)
                    dsimp only [nth] at h21
                    have h25 := fact_val (dep_of hd 25 (by kernel_rfl) (by kernel_rfl)) (by decide)
                    dsimp only [nth] at h25
                    replace hK := hk_val hK (by decide) (by rfl)
                    clear hd
                    simp only [lay, Act.put, List.setIfInBounds_toArray, List.set_cons_zero, List.set_cons_succ, h18, h21, h25] at hK ⊢
                    go_simp
                    exact hK.out _ _ rfl (Below.refl _ _)
                  refine OpsOK.cons ?_ ?_
                  · intro u W K hB hd hK
                    have h18 := fact_val (dep_of hd 18 (by kernel_rfl) (by kernel_rfl)) (by decide)
                    dsimp only [nth] at h18
                    have h26 := fact_val (dep_of hd 26 (by kernel_rfl) (by kernel_rfl)) (by decide)
                    dsimp only [nth] at h26
                    replace hK := hk_val hK (by decide) (by rfl)
                    clear hd
                    simp only [lay, Act.put, List.setIfInBounds_toArray, List.set_cons_zero, List.set_cons_succ, h18, h26] at hK ⊢
                    go_simp
                    exact hK.out _ _ rfl (Below.refl _ _)
                  exact OpsOK.nil
                intro u W hB hf
                have h0 := fact_val (hf 0 (by decide) (by decide)) (by decide)
                dsimp only [nth] at h0
                have h1 := fact_val (hf 1 (by decide) (by decide)) (by decide)
                dsimp only [nth] at h1
                have h2 := fact_val (hf 2 (by decide) (by decide)) (by decide)
                dsimp only [nth] at h2
                have h3 := fact_val (hf 3 (by decide) (by decide)) (by decide)
                dsimp only [nth] at h3
                have h4 := fact_val (hf 4 (by decide) (by decide)) (by decide)
                dsimp only [nth] at h4
                have h5 := fact_val (hf 5 (by decide) (by decide)) (by decide)
                dsimp only [nth] at h5
                have h6 := fact_val (hf 6 (by decide) (by decide)) (by decide)
                dsimp only [nth] at h6
                have h7 := fact_val (hf 7 (by decide) (by decide)) (by decide)
                dsimp only [nth] at h7
                have h8 := fact_val (hf 8 (by decide) (by decide)) (by decide)
                dsimp only [nth] at h8
                have h9 := fact_val (hf 9 (by decide) (by decide)) (by decide)
                dsimp only [nth] at h9
                have h10 := fact_val (hf 10 (by decide) (by decide)) (by decide)
                dsimp only [nth] at h10
                have h11 := fact_val (hf 11 (by decide) (by decide)) (by decide)
                dsimp only [nth] at h11
                have h12 := fact_val (hf 12 (by decide) (by decide)) (by decide)
                dsimp only [nth] at h12
                have h13 := fact_val (hf 13 (by decide) (by decide)) (by decide)
                dsimp only [nth] at h13
                have h14 := fact_val (hf 14 (by decide) (by decide)) (by decide)
                dsimp only [nth] at h14
                have h15 := fact_val (hf 15 (by decide) (by decide)) (by decide)
                dsimp only [nth] at h15
                have h16 := fact_val (hf 16 (by decide) (by decide)) (by decide)
                dsimp only [nth] at h16
                have h17 := fact_val (hf 17 (by decide) (by decide)) (by decide)
                dsimp only [nth] at h17
                have h18 := fact_val (hf 18 (by decide) (by decide)) (by decide)
                dsimp only [nth] at h18
                have h19 := fact_val (hf 19 (by decide) (by decide)) (by decide)
                dsimp only [nth] at h19
                have h20 := fact_val (hf 20 (by decide) (by decide)) (by decide)
                dsimp only [nth] at h20
                have h21 := fact_val (hf 21 (by decide) (by decide)) (by decide)
                dsimp only [nth] at h21
                have h22 := fact_val (hf 22 (by decide) (by decide)) (by decide)
                dsimp only [nth] at h22
                have h23 := fact_val (hf 23 (by decide) (by decide)) (by decide)
                dsimp only [nth] at h23
                have h24 := fact_val (hf 24 (by decide) (by decide)) (by decide)
                dsimp only [nth] at h24
                have h25 := fact_val (hf 25 (by decide) (by decide)) (by decide)
                dsimp only [nth] at h25
                have h26 := fact_val (hf 26 (by decide) (by decide)) (by decide)
                dsimp only [nth] at h26
                have h27 := fact_val (hf 27 (by decide) (by decide)) (by decide)
                dsimp only [nth] at h27
                clear hf
                simp only [lay, h0, h1, h2, h3, h4, h5, h6, h7, h8, h9, h10, h11, h12, h13, h14, h15, h16, h17, h18, h19, h20, h21, h22, h23, h24, h25, h26, h27]
                clear h0 h1 h2 h3 h4 h5 h6 h7 h8 h9 h10 h11 h12 h13 h14 h15 h16 h17 h18 h19 h20 h21 h22 h23 h24 h25 h26 h27
                go_wp2_with (go_at_call 21; (with_reducible refine (left_any w5 _ A5 c5 o3 m 0 (HJ8.out.below hB) (by rw [HN.out]; omega)).mono ?_); rintro r w10 ⟨rfl, hb10⟩)
                go_roundw
                case rel => exact ⟨k + 1, m, by omega, by go_num, by go_num, (HJ8.out.below hB).below hb10⟩
                case measure => simp [intOf]; omega
            · have HSk := hid (seek_any w5 wr A5 c5 o3 m Ar nr cr key HJ.out (HK.out.below hBr) HW.out (by rw [HN.out]; exact hN4))
              go_wp2_with (go_at_call 20; (with_reducible refine HSk.out.mono ?_); rintro r w7 ⟨p, rfl, hp, hj7⟩; have HP := hid hp; have HJ7 := hid hj7; clear hp hj7)
              have hB57 := HJ7.out.2.2.2.1
              have hB37 := below_then hb5 hB57
              have hB07 := below_then hB5 hB57
              go_loopw [9] (fun a wx => ∃ t : Nat, a = .int .i64 t ∧ t ≤ N ∧ (∀ j, j < t → cmpB (eKey (elt noEnt o3 j)) key < 0) ∧ Below w7.heap.size w7 wx) (fun a wx => N - (intOf a).toNat)
              case atStart => exact ⟨0, rfl, Nat.zero_le _, fun j hj => absurd hj (by omega), Below.refl _ _⟩
              case round =>
                obtain ⟨t, rfl, htN, hlow, hB7⟩ := hrel
                have HLow := hid hlow
                clear hlow
                rcases Nat.lt_or_ge t N with ht | ht
                · have hdt : decide ((t : Int) < (N : Int)) = true := decide_eq_true (by omega)
                  obtain ⟨a3, rfl, hea⟩ := HR3.out.at_ ht
                  obtain ⟨Ak, na, ca, Av, ma, da, p0, p1, p2, p3, p4, p5, p6, _, _⟩ := hea.below (below_then hB37 hB7)
                  have q1 := below_cell (below_then hB07 hB7) HK1.out
                  have HLow2 : Hid (cmpB (eKey (elt noEnt o3 t)) key < 0 → ∀ j, j < t + 1 → cmpB (eKey (elt noEnt o3 j)) key < 0) := by
                    intro h j hj
                    rcases Nat.lt_succ_iff_lt_or_eq.1 hj with h1 | h1
                    · exact HLow.out j h1
                    · rw [h1]; exact h
                  have HUn : Hid (0 ≤ cmpB (eKey (elt noEnt o3 t)) key → t = p) := fun h => HP.out.unique (by rw [HN.out]; exact htN) HLow.out (fun _ => h)
                  generalize elt noEnt o3 t = x at *
                  have HA := hid p5
                  have HKw := hid (HK.out.below (below_then hB07 hB7))
                  clear hea p5 p6 p1 p2 p3 p4
                  obtain ⟨C, hC⟩ : ∃ C, cmpB (eKey x) key = C := ⟨_, rfl⟩
                  have HC := hid hC
                  rw [hC] at HLow2 HUn
                  clear hC
                  rcases Int.lt_or_le C 0 with hC0 | hC0
                  · have hdc : decide (C < 0) = true := decide_eq_true hC0
                    have HL2 := hid (HLow2.out hC0)
                    clear hC0 HLow2 HUn
                    go_wp2
                    go_quiet (first | (go_at_call 23; refine Calls.quiet_of (v := .int .i64 C) ((refcompare_quiet Ak na ca (eKey x) Ar nr cr key _ (HA.out.drewN _) (HKw.out.drewN _)).mono ?_); rintro r w1 ⟨rfl, m, hm⟩; exact ⟨by rw [HC.out], m, hm⟩))
                    go_wp2
                    go_roundw
                    case rel => exact ⟨t + 1, by go_num, by omega, HL2.out, below_drewN hB7 _⟩
                    case measure => simp [intOf]; omega
                  · have hdc : decide (C < 0) = false := decide_eq_false (by omega)
                    have HTp := hid (HUn.out hC0)
                    clear hC0 HLow2 HUn
                    go_wp2
                    go_quiet (first | (go_at_call 23; refine Calls.quiet_of (v := .int .i64 C) ((refcompare_quiet Ak na ca (eKey x) Ar nr cr key _ (HA.out.drewN _) (HKw.out.drewN _)).mono ?_); rintro r w1 ⟨rfl, m, hm⟩; exact ⟨by rw [HC.out], m, hm⟩))
                    obtain ⟨ml, hml⟩ : ∃ ml, N = t + ml := ⟨N - t, by omega⟩
                    have hsub : (N : Int) - (t : Int) = (ml : Int) := by omega
                    have hwl : IntKind.i64.wrap (ml : Int) = (ml : Int) := by rw [IntKind.wrap_i64]; omega
                    have HMl := hid hml
                    clear hml
                    have HJt : Hid (∀ W, Below w7.heap.size w7 W → IterJ w5 W A5 c5 o3 t) := hid (fun W hb => by rw [HTp.out]; exact HJ7.out.below hb)
                    go_wp2_with (go_at_call 21; (with_reducible refine (left_any w5 _ A5 c5 o3 t ml (HJt.out _ (below_drewN hB7 _)) (by rw [HN.out]; exact HMl.out)).mono ?_); rintro r w10 ⟨rfl, hb10⟩)
                    go_roundw
                    case rel => exact ⟨k + 1, t, by omega, by go_num, by go_num, (HJt.out _ (below_drewN hB7 _)).below hb10⟩
                    case measure => simp [intOf]; omega
                · obtain rfl : N = t := by omega
                  have HTp : Hid (N = p) := hid (HP.out.unique (by rw [HN.out]; exact htN) HLow.out (fun h => by rw [HN.out] at h; omega))
                  have hsub : (N : Int) - (N : Int) = ((0 : Nat) : Int) := by omega
                  have HJt : Hid (∀ W, Below w7.heap.size w7 W → IterJ w5 W A5 c5 o3 N) := hid (fun W hb => by rw [HTp.out]; exact HJ7.out.below hb)
                  go_wp2
                  go_quiet (fail)
                  go_wp2_with (go_at_call 21; (with_reducible refine (left_any w5 _ A5 c5 o3 N 0 (HJt.out _ (below_drewN hB7 _)) (by rw [HN.out]; omega)).mono ?_); rintro r w10 ⟨rfl, hb10⟩)
                  go_roundw
                  case rel => exact ⟨k + 1, N, by omega, by go_num, by go_num, (HJt.out _ (below_drewN hB7 _)).below hb10⟩
                  case measure => simp [intOf]; omega
          · have hd : decide ((k : Int) < 100) = false := decide_eq_false (by omega)
            go_wp2_with (go_at_call 10; (with_reducible refine (awake_any _).mono ?_); rintro r w9 ⟨rfl, hb9⟩)
            go_ret
            exact ⟨rfl, below_then hBr hb9⟩
        · go_wp2_with (go_at_call 10; (with_reducible refine (awake_any _).mono ?_); rintro r w9 ⟨rfl, hb9⟩)
          go_ret
          exact ⟨rfl, below_then hBr hb9⟩
end Go.Proofs.Ytnjhiiakpndnnaa
