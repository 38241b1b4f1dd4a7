/- Layer 14: Encode: the walk. -/
import Derived.Test.YthiolcccgiibhaaEdP
import Derived.Test.YthiolcccgiibhaaRF2
namespace Go.Proofs.Ythiolcccgiibhaa
open Go.RowKit
set_option linter.unusedVariables false
set_option linter.unusedSimpArgs false

theorem wrap_u64_int {z : Int} (h : 0 ≤ z ∧ z < 18446744073709551616) : IntKind.u64.wrap z = ((z.toNat : Nat) : Int) := by
  rw [IntKind.wrap_u64]
  omega
theorem wrap_u64_mod {z : Int} (h : 0 ≤ z ∧ z < 18446744073709551616) : z % 18446744073709551616 = ((z.toNat : Nat) : Int) := by omega
theorem pick_nat {a b c d : Int} (ha : 0 ≤ a ∧ a < 18446744073709551616) (hb : 0 ≤ b ∧ b < 18446744073709551616) (hc : 0 ≤ c ∧ c < 18446744073709551616) (hd : 0 ≤ d ∧ d < 18446744073709551616) (k : Nat) : ∃ g : Nat, pick4 a b c d k = (g : Int) ∧ g < 18446744073709551616 := by
  unfold pick4 elt
  match k with
  | 0 => exact ⟨a.toNat, by simp; omega, by omega⟩
  | 1 => exact ⟨b.toNat, by simp; omega, by omega⟩
  | 2 => exact ⟨c.toNat, by simp; omega, by omega⟩
  | 3 => exact ⟨d.toNat, by simp; omega, by omega⟩
  | k + 4 => exact ⟨0, by simp, by omega⟩
theorem pick3_nat {a b c : Int} (ha : 0 ≤ a ∧ a < 18446744073709551616) (hb : 0 ≤ b ∧ b < 18446744073709551616) (hc : 0 ≤ c ∧ c < 18446744073709551616) (k : Nat) : ∃ g : Nat, pick3 a b c k = (g : Int) ∧ g < 18446744073709551616 := by
  unfold pick3 elt
  match k with
  | 0 => exact ⟨a.toNat, by simp; omega, by omega⟩
  | 1 => exact ⟨b.toNat, by simp; omega, by omega⟩
  | 2 => exact ⟨c.toNat, by simp; omega, by omega⟩
  | k + 3 => exact ⟨0, by simp, by omega⟩
theorem MayJ.grown {w wr w1 : World} {l x s : Int} {Aa : Option Addr} {na ca : Nat} {Ar : Option Addr} {nr cr : Nat} {row : Option Nat} (h : MayJ w wr l x s Aa na ca Ar nr cr) (hg : wr.grownBy w1 row) (hne : row ≠ some w.heap.size) (h1 : w.heap.size ≤ wr.heap.size) (h2 : ∀ k, row = some k → w.heap.size ≤ k) : MayJ w w1 l x s Aa na ca Ar nr cr :=
  ⟨blk_grown' hg h.1 hne, Below.grown h.2 hg h1 h2⟩
set_option maxHeartbeats 16000000 in
set_option maxRecDepth 100000 in
theorem encode_any (l x s : Int) (Aa : Option Addr) (na ca : Nat) (ts : List TabR) (Ar : Option Addr) (nr cr : Nat) (zs : List Int) (w : World) (hT : RTabs w Aa na ts) (hZ : RN .i64 w Ar nr zs) :
    Calls Try.prog 11 #[.agg #[.int .i64 l, .int .i64 x, .int .i64 s, .slice Aa na ca, .slice Ar nr cr]] w fun e w' => ∃ v, e = .returned (.tuple #[v, .int .i64 (if mayEd l x s ts zs = true then 0 else 1)]) ∧ OB w' w.heap.size v (encE l x s ts zs) ∧ Below w.heap.size w w' := by
  have hla := hT.1
  have hlr := hZ.1
  have HT := hid hT
  have HZ := hid hZ
  have HT1 := hid (hT.below (below_alloc' (Below.refl _ _) (.cells #[.int .i64 l, .int .i64 x, .int .i64 s, .slice Aa na ca, .slice Ar nr cr] 30)))
  have HZ1 := hid (hZ.below (below_alloc' (Below.refl _ _) (.cells #[.int .i64 l, .int .i64 x, .int .i64 s, .slice Aa na ca, .slice Ar nr cr] 30)))
  have HJ := hid (show MayJ w (w.alloc (.cells #[.int .i64 l, .int .i64 x, .int .i64 s, .slice Aa na ca, .slice Ar nr cr] 30)) l x s Aa na ca Ar nr cr from ⟨heap_alloc_new w _, below_alloc' (Below.refl _ _) _⟩)
  clear hT hZ
  cases hM : mayEd l x s ts zs with
  | false =>
    have HM := hid hM
    have HX : Hid (encE l x s ts zs = []) := by unfold Hid encE; rw [hM]; rfl
    clear hM hla hlr
    go_enter Try.func11, Try.ntmps11
    go_wp2_with (go_at_call 13; (with_reducible refine (mayedit_any l x s Aa na ca ts Ar nr cr zs _ HT1.out HZ1.out).mono ?_); rintro e w1 ⟨rfl, hb1⟩; rw [HM.out])
    go_ret2
    exact ⟨_, rfl, by rw [HX.out]; exact OB.nil _ _, (HJ.out.below hb1).2⟩
  | true =>
    obtain ⟨d1, d2, d3, d4, d5, d6, d7⟩ := mayEd_true hM
    have HM := hid hM
    have HX : Hid (encE l x s ts zs = accR (accA l x s ts na) zs nr) := by unfold Hid encE; rw [hM, hla, hlr]; rfl
    have hm6 := addOK_at _ d6
    have HLA := hid (accA_len (l := l) (x := x) (s := s) hm6)
    have hr7 := remOK_at _ d7
    rw [hla] at d4 hm6
    rw [hlr] at d5 hr7
    have H6 := hid hm6
    have H7 := hid hr7
    have hpk := pick_nat (a := l) (b := x) (c := s) (d := (na : Int)) (by omega) (by omega) (by omega) (by omega)
    have HPK := hid hpk
    have HAN := hid hla
    have HRN := hid hlr
    clear hM d6 d7 hm6 hr7 hpk hla hlr
    go_enter Try.func11, Try.ntmps11
    go_wp2_with (go_at_call 13; (with_reducible refine (mayedit_any l x s Aa na ca ts Ar nr cr zs _ HT1.out HZ1.out).mono ?_); rintro e w1 ⟨rfl, hb1⟩; rw [HM.out]; have hJ1 := HJ.out.below hb1; have hq0 := box_at hJ1.1 0 (.int .i64 l) rfl; have hq1 := box_at hJ1.1 1 (.int .i64 x) rfl; have hq2 := box_at hJ1.1 2 (.int .i64 s) rfl; have hq3 := box_at hJ1.1 3 (.slice Aa na ca) rfl)
    go_loopw [4, 26] (fun v i wr => ∃ k : Nat, k ≤ 4 ∧ i = .int .i64 k ∧ OB wr w.heap.size v (accH l x s na k) ∧ MayJ w wr l x s Aa na ca Ar nr cr) (fun v i wr => 4 - (intOf i).toNat)
    case atStart => exact ⟨0, Nat.zero_le _, rfl, OB.nil _ _, hJ1⟩
    case round =>
      obtain ⟨k, hk, rfl, hown, hJ⟩ := hrel
      by_cases hlt : k < 4
      · have hix := run_index4 l x s na hlt wr
        obtain ⟨g, hg, hg2⟩ := HPK.out k
        have hnx : accH l x s na (k + 1) = accH l x s na k ++ uvar g := by rw [accH, hg]; rfl
        have hlen := accH_len l x s na k
        have HNX := hid hnx
        rw [hg] at hix
        clear hg hnx
        generalize accH l x s na k = L at *
        obtain ⟨A2, c2, rfl, hr2, hc2⟩ := hown.open_
        have hw := wrap_u64_nat g hg2
        go_wp2_with (go_at_call 19; (with_reducible refine (put_any A2 _ c2 L g _ hr2 hg2 (by omega)).mono ?_); rintro e w2 ⟨v2, rfl, hown2, hb2⟩; have hJ2 := hJ.below hb2)
        go_roundw
        case rel => exact ⟨k + 1, by omega, by go_num, by rw [HNX.out]; exact hown2.mono hJ.2.size, hJ2⟩
        case measure => simp [intOf]; omega
      · have hk4 : k = 4 := by omega
        have hk5 : ¬ (k : Int) < 4 := by omega
        have hHA : accH l x s na k = accA l x s ts 0 := by rw [hk4, accA, HAN.out]
        rw [hHA] at hown
        clear hHA hk4 hk hlt
        have hq4 := box_at hJ.1 3 (.slice Aa na ca) rfl
        go_wp2
        go_loopw [4, 37] (fun v i wr => ∃ k : Nat, k ≤ na ∧ i = .int .i64 k ∧ OB wr w.heap.size v (accA l x s ts k) ∧ MayJ w wr l x s Aa na ca Ar nr cr) (fun v i wr => na - (intOf i).toNat)
        case atStart => exact ⟨0, Nat.zero_le _, rfl, hown, hJ⟩
        case round =>
          obtain ⟨k, hk, rfl, hown, hJ⟩ := hrel
          by_cases hlt : k < na
          · obtain ⟨ad, rfl, hcells⟩ := HT.out.at_ hlt
            obtain ⟨Al, nl, cl, Am, nm, cm, hc0, hc1, hc2, hc3, hc4, hrl, hcl, hrm, hcm, hwf, _, _⟩ := hcells
            have hc0 := below_cell hJ.2 hc0
            have hc1 := below_cell hJ.2 hc1
            have hc2 := below_cell hJ.2 hc2
            have hc3 := below_cell hJ.2 hc3
            have hc4 := below_cell hJ.2 hc4
            have hmt := H6.out k hlt
            have hlen := HLA.out k (by rw [HAN.out]; omega)
            have hnx : accA l x s ts (k + 1) = tabS (elt noTab ts k) (accA l x s ts k) := rfl
            have HNX := hid hnx
            clear hnx
            generalize elt noTab ts k = t at *
            generalize accA l x s ts k = L at *
            obtain ⟨t1, t2, t3, t4, t5, t6, _, t7, _, t8, _⟩ := mayT_true hmt
            have hp3 := pick3_nat (a := tNum t) (b := tLev t) (c := tSize t) (by omega) (by omega) (by omega)
            have HP3 := hid hp3
            clear hmt hp3 t1 t2 t3 t4 t5 t6
            have hJ2 := hJ.below (below_alloc' (Below.refl _ _) (.cells #[.int .i64 (tNum t), .int .i64 (tLev t), .int .i64 (tSize t), .slice Al nl cl, .slice Am nm cm] 24))
            have hbt : (wr.alloc (.cells #[.int .i64 (tNum t), .int .i64 (tLev t), .int .i64 (tSize t), .slice Al nl cl, .slice Am nm cm] 24)).heap[wr.heap.size]? = _ := heap_alloc_new wr (.cells #[.int .i64 (tNum t), .int .i64 (tLev t), .int .i64 (tSize t), .slice Al nl cl, .slice Am nm cm] 24)
            have hownW := hown.alloc (.cells #[.int .i64 (tNum t), .int .i64 (tLev t), .int .i64 (tSize t), .slice Al nl cl, .slice Am nm cm] 24)
            have hnl := hrl.1
            have hnm := hrm.1
            have HRL := hid hrl
            have HRM := hid hrm
            clear hrl hrm
            go_wp2
            generalize wr.alloc (.cells #[.int .i64 (tNum t), .int .i64 (tLev t), .int .i64 (tSize t), .slice Al nl cl, .slice Am nm cm] 24) = W0 at *
            generalize wr.heap.size = b at *
            go_loopw [4, 48] (fun v i wr => ∃ j : Nat, j ≤ 3 ∧ i = .int .i64 j ∧ OB wr w.heap.size v (acc3 L t j) ∧ Below W0.heap.size W0 wr) (fun v i wr => 3 - (intOf i).toNat)
            case atStart => exact ⟨0, Nat.zero_le _, rfl, hownW, Below.refl _ _⟩
            case round =>
              obtain ⟨j, hj, rfl, hown, hB⟩ := hrel
              by_cases hlt3 : j < 3
              · have hix := fun u => run_index3 (tNum t) (tLev t) (tSize t) hlt3 u
                obtain ⟨g, hg, hg2⟩ := HP3.out j
                have hn3 : acc3 L t (j + 1) = acc3 L t j ++ uvar g := by rw [acc3, hg]; rfl
                have hlen3 := acc3_len L t j
                have HN3 := hid hn3
                simp only [hg] at hix
                clear hg hn3
                generalize acc3 L t j = L3 at *
                obtain ⟨A2, c2, rfl, hr2, hc2⟩ := hown.open_
                have hw := wrap_u64_nat g hg2
                go_wp2_with (go_at_call 19; (with_reducible refine (put_any A2 _ c2 L3 g _ hr2 hg2 (by omega)).mono ?_); rintro e w2 ⟨v2, rfl, hown2, hb2⟩)
                go_roundw
                case rel =>
                  exact ⟨j + 1, by omega, by go_num, by rw [HN3.out]; exact hown2.mono (hJ2.below hB).2.size, below_then hB hb2⟩
                case measure => simp [intOf]; omega
              · have hj4 : j = 3 := by omega
                have hj5 : ¬ (j : Int) < 3 := by omega
                have hl3 := acc3_len L t j
                have hHT : tabS t L = (acc3 L t j ++ uvar (tLeast t).length ++ tLeast t) ++ uvar (tMost t).length ++ tMost t := by rw [hj4]; rfl
                have HHT := hid hHT
                clear hHT hj hlt3
                generalize acc3 L t j = L3 at *
                have hbk := blk_below hB hbt
                have hJ3 := hJ2.below hB
                have hBw3 : Below w.heap.size w wr := hJ3.2
                have hbW3 := hBw3.size
                have hne3 := OB.ne_blk hown hbk (by decide)
                have hbs3 := OB.base_ hown
                have huL := uvar_len (tLeast t).length
                have huN := uvar_len nl
                have hne5 := OB.ne_blk hown hJ3.1 (by decide)
                clear hbt hownW hB
                go_wp2
                generalize wr = W3 at *
                apply wp_region_txtB (w.heap.size) 0 (u4.ownBlock) [none, none, none, none, some 7, none, none, none, none, none, none, none, none, none, none, none, none, none, none, none, none, none, none, none, none, none, none, none, none, none, none, none, none, none, none, none, none, none, none, none, none, none, none, none, none, none, none, none, none, none, none, none, none, none, none, none, some 0, some 1, some 2, some 3, some 4, some 5, some 6, none, none, none, none, none, none, none, none, none, none, none, none, none, none, none, none, none, none, none, none] [0, 3, 6, 7] [(6, 7)] [undef, _, _, undef, _, _, undef, undef] [_, [], [], _, [], [], _, _]
                case hm => rfl
                case hs => rfl
                case hst => kernel_rfl
                case hrow0 => exact fun k hk => (World.ownsRow.lt hown k hk).2
                case hput => exact OpsOK.cons (fun _ _ => rfl) (OpsOK.cons (fun _ _ => rfl) (OpsOK.cons (fun _ _ => rfl) (OpsOK.cons (fun _ _ => rfl) (OpsOK.cons (fun _ _ => rfl) (OpsOK.cons (fun _ _ => rfl) (OpsOK.cons (fun _ _ => rfl) (OpsOK.cons (fun _ _ => rfl) (OpsOK.nil))))))))
                case hops =>
                  refine OpsOK.cons ?_ ?_
                  · intro u W K hB hz0 hz1 hd hK
                    have hbW := Nat.le_trans hbW3 hB.size
                    replace hK := hk_oldB hK rfl (by decide) (by rfl)
                    clear hd
                    have hw : u 7 = (u4) := (was_of hz1 7 (by kernel_rfl)).trans rfl
                    clear hz1
                    simp only [lay, Act.put, List.setIfInBounds_toArray, List.set_cons_zero, List.set_cons_succ, hw] at hK ⊢
                    go_simp
                    exact hK.out _ (OB.below hown (hz0 rfl)) (fun k hk => hk.symm)
                  refine OpsOK.cons ?_ ?_
                  · intro u W K hB hz0 hz1 hd hK
                    have hbW := Nat.le_trans hbW3 hB.size
                    replace hK := hk_valB hK (by decide) (by rfl)
                    clear hd
                    clear hz1
                    simp only [lay, Act.put, List.setIfInBounds_toArray, List.set_cons_zero, List.set_cons_succ] at hK ⊢
                    go_simp
                    exact hK.out _ _ rfl (Below.refl _ _)
                  refine OpsOK.cons ?_ ?_
                  · intro u W K hB hz0 hz1 hd hK
                    have hbW := Nat.le_trans hbW3 hB.size
                    have h1 := fact_valB (dep_of hd 1 (by kernel_rfl) (by kernel_rfl)) (by decide)
                    dsimp only [nth] at h1
                    replace hK := hk_valB hK (by decide) (by rfl)
                    clear hd
                    clear hz1
                    simp only [lay, Act.put, List.setIfInBounds_toArray, List.set_cons_zero, List.set_cons_succ, h1] at hK ⊢
                    have q3 := box_at (blk_grown hB hbk hne3) 3 (.slice Al nl cl) rfl
                    go_simp
                    exact hK.out _ _ rfl (Below.refl _ _)
                  refine OpsOK.cons ?_ ?_
                  · intro u W K hB hz0 hz1 hd hK
                    have hbW := Nat.le_trans hbW3 hB.size
                    have h0 := fact_rowB (dep_of hd 0 (by kernel_rfl) (by kernel_rfl)) (by decide)
                    dsimp only [nth] at h0
                    have h2 := fact_valB (dep_of hd 2 (by kernel_rfl) (by kernel_rfl)) (by decide)
                    dsimp only [nth] at h2
                    replace hK := hk_rowB hbW hK (by decide) (by decide) (by rfl)
                    clear hd
                    clear hz1
                    simp only [lay, Act.put, List.setIfInBounds_toArray, List.set_cons_zero, List.set_cons_succ, h2] at hK ⊢
                    obtain ⟨A5, c5, e5, hr5, _⟩ := h0.open_
                    simp only [e5] at hK ⊢
                    go_simp
                    first
                      | (go_at_call 20; (with_reducible refine (putbytes_any A5 _ c5 L3 Al nl cl (tLeast t) _ hr5 (HRL.out.below (hBw3.grown hB hbW3 hbs3)) (by omega)).mono ?_); rintro e w1 ⟨v1, rfl, hown1, hb1⟩; exact hK.out _ _ hown1 hb1)
                      | (go_at_call 20; (with_reducible refine (putbytes_any A6 _ c6 (L3 ++ uvar (tLeast t).length ++ tLeast t) Am nm cm (tMost t) _ hr6 (HRM.out.below (hBw3.grown hB hbW3 hbs3)) (by omega)).mono ?_); rintro e w1 ⟨v1, rfl, hown1, hb1⟩; exact hK.out _ _ hown1 hb1)
                  refine OpsOK.cons ?_ ?_
                  · intro u W K hB hz0 hz1 hd hK
                    have hbW := Nat.le_trans hbW3 hB.size
                    replace hK := hk_valB hK (by decide) (by rfl)
                    clear hd
                    clear hz1
                    simp only [lay, Act.put, List.setIfInBounds_toArray, List.set_cons_zero, List.set_cons_succ] at hK ⊢
                    go_simp
                    exact hK.out _ _ rfl (Below.refl _ _)
                  refine OpsOK.cons ?_ ?_
                  · intro u W K hB hz0 hz1 hd hK
                    have hbW := Nat.le_trans hbW3 hB.size
                    have h4 := fact_valB (dep_of hd 4 (by kernel_rfl) (by kernel_rfl)) (by decide)
                    dsimp only [nth] at h4
                    replace hK := hk_valB hK (by decide) (by rfl)
                    clear hd
                    clear hz1
                    simp only [lay, Act.put, List.setIfInBounds_toArray, List.set_cons_zero, List.set_cons_succ, h4] at hK ⊢
                    have q4 := box_at (blk_grown hB hbk hne3) 4 (.slice Am nm cm) rfl
                    go_simp
                    exact hK.out _ _ rfl (Below.refl _ _)
                  refine OpsOK.cons ?_ ?_
                  · intro u W K hB hz0 hz1 hd hK
                    have hbW := Nat.le_trans hbW3 hB.size
                    have h3 := fact_rowB (dep_of hd 3 (by kernel_rfl) (by kernel_rfl)) (by decide)
                    dsimp only [nth] at h3
                    have h5 := fact_valB (dep_of hd 5 (by kernel_rfl) (by kernel_rfl)) (by decide)
                    dsimp only [nth] at h5
                    replace hK := hk_rowB hbW hK (by decide) (by decide) (by rfl)
                    clear hd
                    clear hz1
                    simp only [lay, Act.put, List.setIfInBounds_toArray, List.set_cons_zero, List.set_cons_succ, h5] at hK ⊢
                    obtain ⟨A6, c6, e6, hr6, _⟩ := h3.openN (L3.length + (uvar nl).length + nl) (by rw [List.length_append, List.length_append, hnl])
                    simp only [e6] at hK ⊢
                    go_simp
                    first
                      | (go_at_call 20; (with_reducible refine (putbytes_any A5 _ c5 L3 Al nl cl (tLeast t) _ hr5 (HRL.out.below (hBw3.grown hB hbW3 hbs3)) (by omega)).mono ?_); rintro e w1 ⟨v1, rfl, hown1, hb1⟩; exact hK.out _ _ hown1 hb1)
                      | (go_at_call 20; (with_reducible refine (putbytes_any A6 _ c6 (L3 ++ uvar (tLeast t).length ++ tLeast t) Am nm cm (tMost t) _ hr6 (HRM.out.below (hBw3.grown hB hbW3 hbs3)) (by omega)).mono ?_); rintro e w1 ⟨v1, rfl, hown1, hb1⟩; exact hK.out _ _ hown1 hb1)
                  refine OpsOK.cons ?_ ?_
                  · intro u W K hB hz0 hz1 hd hK
                    have hbW := Nat.le_trans hbW3 hB.size
                    have h6 := fact_rowB (dep_of hd 6 (by kernel_rfl) (by kernel_rfl)) (by decide)
                    dsimp only [nth] at h6
                    replace hK := hk_parB hK (by decide) 6 (by rfl)
                    clear hd
                    clear hz1
                    simp only [lay, Act.put, List.setIfInBounds_toArray, List.set_cons_zero, List.set_cons_succ] at hK ⊢
                    go_simp
                    exact hK.out _ _ h6 (grown_refl _ _) (AtRow.refl _ _)
                  exact OpsOK.nil
                intro u W hB hf
                have h0 := fact_rowB (hf 0 (by decide) (by decide)) (by decide)
                dsimp only [nth] at h0
                have h1 := fact_valB (hf 1 (by decide) (by decide)) (by decide)
                dsimp only [nth] at h1
                have h2 := fact_valB (hf 2 (by decide) (by decide)) (by decide)
                dsimp only [nth] at h2
                have h3 := fact_rowB (hf 3 (by decide) (by decide)) (by decide)
                dsimp only [nth] at h3
                have h4 := fact_valB (hf 4 (by decide) (by decide)) (by decide)
                dsimp only [nth] at h4
                have h5 := fact_valB (hf 5 (by decide) (by decide)) (by decide)
                dsimp only [nth] at h5
                have h7 := fact_rowB (hf 7 (by decide) (by decide)) (by decide)
                dsimp only [nth] at h7
                clear hf
                simp only [lay, h1, h2, h4, h5]
                clear h1 h2 h4 h5
                go_wp2
                go_roundw
                case rel => exact ⟨k + 1, by omega, by go_num, by rw [HNX.out, HHT.out]; exact h7, MayJ.grown hJ3 hB hne5 hbW3 hbs3⟩
                case measure => simp [intOf]; omega
          · obtain rfl : k = na := by omega
            have hlen := HLA.out k (by rw [HAN.out]; omega)
            have hL0 : accR (accA l x s ts k) zs 0 = accA l x s ts k ++ uvar nr := by rw [accR, HRN.out]
            have hLR := accR_len (accA l x s ts k) zs
            have HL0 := hid hL0
            have HLR := hid hLR
            generalize accA l x s ts k = L at *
            obtain ⟨A2, c2, rfl, hr2, hc2⟩ := hown.open_
            have hw := wrap_u64_nat nr (by omega)
            have hq5 := box_at hJ.1 4 (.slice Ar nr cr) rfl
            clear hL0 hLR
            go_wp2_with (go_at_call 19; (with_reducible refine (put_any A2 _ c2 L nr _ hr2 (by omega) (by omega)).mono ?_); rintro e w2 ⟨v2, rfl, hown2, hb2⟩; have hJ2 := hJ.below hb2; have hq6 := box_at hJ2.1 4 (.slice Ar nr cr) rfl; rw [← HL0.out] at hown2; have hown3 := hown2.mono hJ.2.size)
            go_loopw [4, 73] (fun v i wr => ∃ j : Nat, j ≤ nr ∧ i = .int .i64 j ∧ OB wr w.heap.size v (accR L zs j) ∧ MayJ w wr l x s Aa k ca Ar nr cr) (fun v i wr => nr - (intOf i).toNat)
            case atStart => exact ⟨0, Nat.zero_le _, rfl, hown3, hJ2⟩
            case round =>
              obtain ⟨j, hj, rfl, hown, hJ⟩ := hrel
              by_cases hlt : j < nr
              · obtain ⟨ad, rfl, hc0⟩ := (HZ.out.below hJ.2).at_ hlt
                obtain ⟨z1, z2⟩ := H7.out j hlt
                have hlen2 := HLR.out j
                have hnx : accR L zs (j + 1) = accR L zs j ++ uvar (elt 0 zs j).toNat := rfl
                obtain ⟨g, hg⟩ : ∃ g : Nat, elt 0 zs j = (g : Int) := ⟨(elt 0 zs j).toNat, by omega⟩
                rw [hg] at hnx hc0 z1 z2
                rw [Int.toNat_natCast] at hnx
                have HNX := hid hnx
                have hg2 : g < 18446744073709551616 := by omega
                clear hnx hg
                generalize accR L zs j = L4 at *
                obtain ⟨A3, c3, rfl, hr3, hc3⟩ := hown.open_
                have hw := wrap_u64_nat g hg2
                go_wp2_with (go_at_call 19; (with_reducible refine (put_any A3 _ c3 L4 g _ hr3 hg2 (by omega)).mono ?_); rintro e w2 ⟨v2, rfl, hown2, hb2⟩; have hJ2 := hJ.below hb2)
                go_roundw
                case rel => exact ⟨j + 1, by omega, by go_num, by rw [HNX.out]; exact hown2.mono hJ.2.size, hJ2⟩
                case measure => simp [intOf]; omega
              · obtain rfl : j = nr := by omega
                have HO := hid hown
                clear hown
                go_wp2
                go_ret2
                exact ⟨_, rfl, by rw [HX.out]; exact HO.out, hJ.2⟩
end Go.Proofs.Ythiolcccgiibhaa
