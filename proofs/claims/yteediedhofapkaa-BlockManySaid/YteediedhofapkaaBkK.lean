/- Layer 11: the document's Block: the walk where it takes the entries. -/
import Derived.Test.YteediedhofapkaaBkJ
import Derived.Deep.DeepCutAuto
import Derived.BigQuiet
namespace Go.Proofs.Yteediedhofapkaa
open Go.RowKit
set_option linter.unusedVariables false
set_option linter.unusedSimpArgs false

theorem cut_head (n : Nat) (e : EntR) (L L2 : List UInt8) (s : Nat) (h : L ++ uvar n ++ uvar ((eKey e).drop n).length ++ (eKey e).drop n = L2) (hs : eSeq e = (s : Int)) : bkHead n e L = L2 ++ uvar s := by
  rw [head_ref, ← h, hs, Int.toNat_natCast]
theorem tdiv4 {m k : Nat} (h : m = 4 * k) : Int.tdiv (m : Int) 4 = (k : Int) := by
  rw [show ((4 : Int)) = ((4 : Nat) : Int) from rfl, ← Int.ofNat_tdiv, h, Nat.mul_div_cancel_left _ (by omega)]
set_option maxHeartbeats 64000000 in
set_option maxRecDepth 200000 in
theorem block_fit (A : Option Addr) (n c : Nat) (es : List EntR) (w : World) (h : REnts w A n es) (hf : FitK es) :
    Calls Try.prog 7 #[.slice A n c] w fun r w' => ∃ v, r = .returned (.tuple #[v, .int .i64 0]) ∧ OB w' w.heap.size v (encK es) ∧ Below w.heap.size w w' := by
  have hl := h.1
  have hmax := h.2.1
  have h1 := hf.1
  have h400 := hf.2.1
  rw [hl] at h1 h400
  have hn0 : ((n : Int) == 0) = false := by rw [beq_eq_false_iff_ne]; omega
  have hn4 : decide ((400 : Int) < (n : Int)) = false := decide_eq_false (by omega)
  have HLen := hid (hf.len hl)
  have HMay : Hid (∀ j, j < n → mayE (elt noEnt es j) = true) := hid (fun j hj => hf.2.2.1 j (by omega))
  have HSr := hid (srtB_true hf.2.2.2)
  have H := hid h
  have HL := hid hl
  clear h hf hl
  go_enter Try.func7, Try.ntmps7
  go_wp2
  go_loopw [21] (fun i wr => ∃ k : Nat, k ≤ n ∧ i = .int .i64 k ∧ Below w.heap.size w wr) (fun i wr => n - (intOf i).toNat)
  case atStart => exact ⟨0, Nat.zero_le _, rfl, Below.refl _ _⟩
  case round =>
    obtain ⟨k, hk, rfl, hB⟩ := hrel
    by_cases hlt : k < n
    · obtain ⟨ad, rfl, hen⟩ := H.out.at_ hlt
      obtain ⟨Ak, nk, ck, Av, nv, cv, a0, a1, a2, a3, a4, a5, a6, a7, a8⟩ := hen.below hB
      have hm := HMay.out k hlt
      have hkl := a5.max
      have hvl := a6.max
      have e5 := a5.1
      have e6 := a6.1
      generalize elt noEnt es k = x at *
      have hmN : mayN nk (eSeq x) (eGone x) (eTil x) nv = true := by rw [← e5, ← e6]; exact hm
      have HmN := hid hmN
      clear hen a5 a6 hm hmN e5 e6
      go_wp2_with (go_at_call 21; (with_reducible refine (refmay_any Ak nk ck (eSeq x) (eGone x) (eTil x) Av nv cv _ hkl hvl).mono ?_); rintro r w1 ⟨rfl, hb1⟩; rw [HmN.out])
      go_roundw
      case rel => exact ⟨k + 1, by omega, by go_num, below_then (below_alloc' hB _) hb1⟩
      case measure => simp [intOf]; omega
    · obtain rfl : k = n := by omega
      go_wp2_with (go_at_call 22; (with_reducible refine (refordered_any A k c es _ (H.out.below hB)).mono ?_); rintro r w1 ⟨rfl, hb1⟩; rw [HSr.out]; have hB1 := below_then hB hb1)
      go_loopw [6, 7, 34] (fun v u i wr => ∃ j : Nat, j ≤ k ∧ i = .int .i64 j ∧ RfJ w wr v (accK es j) u (tlK es j)) (fun v u i wr => k - (intOf i).toNat)
      case atStart => exact ⟨0, Nat.zero_le _, rfl, OB.nil _ _, OB.nil _ _, (by intro q hq; cases hq), hB1⟩
      case round =>
        clear hB hB1 hb1
        obtain ⟨j, hj, rfl, hJ⟩ := hrel
        by_cases hjt : j < k
        · have hlen := HLen.out j hj
          have hsh := shN_le es j
          have hm := HMay.out j hjt
          have hacc : accK es (j + 1) = bkTail (elt noEnt es j) (bkHead (shN es j) (elt noEnt es j) (accK es j)) := rfl
          have hst : tlK es (j + 1) = if j % 8 = 0 then tlK es j ++ fixB (accK es j).length 4 else tlK es j := rfl
          have hsn : shN es j = if j % 8 = 0 then 0 else cmnB (eKey (elt noEnt es (j - 1))) (eKey (elt noEnt es j)) := rfl
          have htl4 := tl_len es j
          have hslen := stK_len es j
          have htln : (tlK es j).length + 10 ≤ 140737488355328 := by omega
          obtain ⟨ad, hA, hen⟩ := H.out.at_ hjt
          subst hA
          have hen1 : 0 < j → EnC w (ad.add ((j - 1) * 5)) (elt noEnt es (j - 1)) := fun h0 => by
            obtain ⟨ad1, ha, hx⟩ := H.out.at_ (show j - 1 < k by omega)
            obtain rfl := Option.some.inj ha
            exact hx
          clear htl4 hslen
          generalize elt noEnt es j = x at *
          generalize shN es j = NN at *
          obtain ⟨T2, hT2⟩ : ∃ T2, tlK es (j + 1) = T2 := ⟨_, rfl⟩
          rw [hT2] at hst
          have HT2 := hid hT2
          clear hT2
          generalize tlK es j = T at *
          generalize accK es j = L at *
          obtain ⟨m1, m2, m3, m4, m5⟩ := mayE_cases hm
          obtain ⟨m6, m7, m8⟩ := mayE_more hm
          obtain ⟨Ak, nk, ck, Av, nv, cv, a0, a1, a2, a3, a4, a5, a6, a7, a8⟩ := hen
          have a0 := below_cell hJ.2.2.2 a0
          have a1 := below_cell hJ.2.2.2 a1
          have a2 := below_cell hJ.2.2.2 a2
          have a3 := below_cell hJ.2.2.2 a3
          have a4 := below_cell hJ.2.2.2 a4
          obtain ⟨Ao, co, hve, _, _⟩ := hJ.1.open_
          subst hve
          have hnk := a5.1
          have hnv := a6.1
          have HK0 := hid a5
          have HV0 := hid a6
          obtain ⟨sq, hsq⟩ : ∃ sq : Nat, eSeq x = (sq : Int) := ⟨(eSeq x).toNat, by omega⟩
          obtain ⟨tl, htl⟩ : ∃ tl : Nat, eTil x = (tl : Int) := ⟨(eTil x).toNat, by omega⟩
          have hsq2 : sq < 18446744073709551616 := by omega
          have htl2 : tl < 18446744073709551616 := by omega
          have HSq := hid hsq
          have HTl := hid htl
          clear hsq htl m4 m5 m6 m7
          rw [hnk] at hsh m1 m2
          rw [hnv] at m3
          have hJ0 := hJ.below (below_alloc' (Below.refl _ _) (.cells #[.slice Ak nk ck, .int .i64 (eSeq x), .bool (eGone x), .int .i64 (eTil x), .slice Av nv cv] 26))
          have hbx : EnBx (wr.alloc (.cells #[.slice Ak nk ck, .int .i64 (eSeq x), .bool (eGone x), .int .i64 (eTil x), .slice Av nv cv] 26)) wr.heap.size Ak nk ck x Av nv cv := heap_alloc_new wr _
          have HAcc := hid hacc
          have HSt := hid hst
          have HEn1 := hid hen1
          have HSn := hid hsn
          have hq1 := wrap_u64_nat' NN (by omega)
          clear hacc hst hen1 hsn hm m8 a5 a6 hJ
          obtain ⟨M8, hM8⟩ : ∃ M8 : Bool, ((j : Int) % 8 == 0) = M8 := ⟨_, rfl⟩
          have HM8 : Hid (M8 = decide (j % 8 = 0)) := by
            unfold Hid
            rw [← hM8]
            by_cases h8 : j % 8 = 0
            · rw [decide_eq_true h8, beq_iff_eq]; omega
            · rw [decide_eq_false h8, beq_eq_false_iff_ne]; omega
          go_upto_if 41 with fail
          generalize wr.alloc (.cells #[.slice Ak nk ck, .int .i64 (eSeq x), .bool (eGone x), .int .i64 (eTil x), .slice Av nv cv] 26) = W0 at *
          generalize wr.heap.size = b at *
          clear a0 a1 a2 a3 a4
          go_cut [6, 7, 10] (fun v u s wx => s = .int .i64 (NN : Int) ∧ RfJ w wx v L u T2 ∧ EnBx wx b Ak nk ck x Av nv cv)
          case first =>
            have HW := hid (hJ0.2.2.2)
            cases M8
            · have h8 : ¬ j % 8 = 0 := of_decide_eq_false HM8.out.symm
              have HST : Hid (T = T2) := hid (by rw [HSt.out, if_neg h8])
              have hNe : NN = cmnB (eKey (elt noEnt es (j - 1))) (eKey x) := by rw [HSn.out, if_neg h8]
              obtain ⟨Bk, mk, dk, Bv, mv, dv, b0, _, _, _, _, b5, _, _, _⟩ := HEn1.out (by omega)
              have b0 := below_cell hJ0.2.2.2 b0
              obtain ⟨i, hi⟩ : ∃ i, j - 1 = i := ⟨_, rfl⟩
              have hkm : (j : Int) - 1 = (i : Int) := by omega
              have hws : IntKind.i64.wrap (i : Int) = (i : Int) := by rw [IntKind.wrap_i64]; omega
              have hik : i < k := by omega
              rw [hi] at b0 hNe b5
              generalize elt noEnt es i = y at *
              have ha0 := hbx.at_.1
              have hkx := HK0.out.1
              have hky := b5.1
              have hmx := HK0.out.max
              have hmy := b5.max
              have HI : Hid (∀ q, q ≤ nk → q ≤ mk → (∀ t, t < q → bAt (eKey x) t = bAt (eKey y) t) → (q = nk ∨ q = mk ∨ bAt (eKey x) q ≠ bAt (eKey y) q) → NN = q) := by
                intro q h1 h2 h3 h4
                rw [hNe]
                exact cmnB_is _ _ q (by omega) (by omega) (fun t ht => (h3 t ht).symm) (by rw [hkx, hky]; rcases h4 with h4 | h4 | h4 <;> first | exact .inr (.inl h4) | exact .inl h4 | exact .inr (.inr (fun e => h4 e.symm)))
              have HY0 := hid b5
              have HJ0 := hid hJ0
              have HBX := hid hbx
              clear h8 hi hNe b5 hkx hky hJ0 hbx
              go_wp2
              go_loopw [10] (fun s wx => ∃ q : Nat, q ≤ nk ∧ q ≤ mk ∧ s = .int .i64 q ∧ (∀ t, t < q → bAt (eKey x) t = bAt (eKey y) t) ∧ Below W0.heap.size W0 wx) (fun s wx => nk - (intOf s).toNat)
              case atStart => exact ⟨0, Nat.zero_le _, Nat.zero_le _, rfl, fun t ht => absurd ht (by omega), Below.refl _ _⟩
              case round =>
                obtain ⟨q, hqn, hqm, rfl, hall, hB⟩ := hrel
                have HA := hid hall
                clear hall
                have b0 := below_cell hB b0
                have ha0 := below_cell hB ha0
                have fin : Hid (∀ W, Below wr.heap.size wr W → RfJ w W (.slice Ao L.length co) L u7 T2 ∧ EnBx W b Ak nk ck x Av nv cv) := by
                  intro W hbW
                  rw [← HST.out]
                  exact ⟨HJ0.out.below (below_then hB hbW), blk_below (below_then hB hbW) HBX.out⟩
                rcases Nat.lt_or_ge q nk with h1 | h1
                · have hd1 : decide ((q : Int) < (nk : Int)) = true := decide_eq_true (by omega)
                  rcases Nat.lt_or_ge q mk with h2 | h2
                  · have hd2 : decide ((q : Int) < (mk : Int)) = true := decide_eq_true (by omega)
                    obtain ⟨ax, rfl, p0⟩ := HK0.out.at_ h1
                    obtain ⟨ay, rfl, q0⟩ := HY0.out.at_ h2
                    have p0 := below_cell (below_then HW.out hB) p0
                    have q0 := below_cell (below_then HW.out hB) q0
                    by_cases he : bAt (eKey x) q = bAt (eKey y) q
                    · have HA2 : Hid (∀ t, t < q + 1 → bAt (eKey x) t = bAt (eKey y) t) := by
                        intro t ht
                        rcases Nat.lt_succ_iff_lt_or_eq.1 ht with h3 | h3
                        · exact HA.out t h3
                        · rw [h3]; exact he
                      rw [he] at p0
                      clear he
                      go_wp2
                      go_quiet (fail)
                      go_wp2
                      go_roundw
                      case rel => exact ⟨q + 1, by omega, by omega, by go_num, HA2.out, below_drewN hB _⟩
                      case measure => simp [intOf]; omega
                    · have hd3 : ((bAt (eKey x) q : Int) == (bAt (eKey y) q : Int)) = false := by rw [beq_eq_false_iff_ne]; omega
                      have HR := hid (HI.out q hqn hqm HA.out (.inr (.inr he)))
                      clear he
                      go_wp2
                      go_quiet (fail)
                      go_wp2
                      go_meet
                      exact ⟨by rw [HR.out], fin.out _ (below_drewN (Below.refl _ _) _)⟩
                  · obtain rfl : mk = q := by omega
                    have hd2 : ¬ ((mk : Int) < (mk : Int)) := by omega
                    have HR := hid (HI.out mk hqn hqm HA.out (.inr (.inl rfl)))
                    go_wp2
                    go_quiet (fail)
                    go_wp2
                    go_meet
                    exact ⟨by rw [HR.out], fin.out _ (below_drewN (Below.refl _ _) _)⟩
                · obtain rfl : nk = q := by omega
                  have HR := hid (HI.out nk hqn hqm HA.out (.inl rfl))
                  go_wp2
                  go_quiet (fail)
                  go_wp2
                  go_meet
                  exact ⟨by rw [HR.out], fin.out _ (below_drewN (Below.refl _ _) _)⟩
            · have h8 : j % 8 = 0 := of_decide_eq_true HM8.out.symm
              have HST : Hid (T2 = T ++ fixB L.length 4) := hid (by rw [HSt.out, if_pos h8])
              have hN0 : NN = 0 := by rw [HSn.out, if_pos h8]
              have hLl := wrap_u64_nat' L.length (by omega)
              subst hN0
              clear h8
              have hoU := hJ0.2.1
              have hoS := hJ0.size
              go_wp2_with (go_at_call 23; (with_reducible refine (reffixed_any u7 w.heap.size T L.length 4 _ hoU hoS (by omega) (by omega) htln).mono ?_); rintro r w1 ⟨v1, rfl, hown1, hgr1, hat1⟩; have hbx1 := hbx.grown hgr1 hJ0.2.1; have hJ1 := hJ0.stepU hgr1 hown1 hat1.place)
              go_meet
              exact ⟨rfl, by rw [HST.out]; exact hJ1, hbx1⟩
          case rest =>
            obtain ⟨rfl, hJ1, hbx1⟩ := hcut
            clear hJ0 hbx hM8 HM8 M8
            generalize wc = W1 at *
            have hown := hJ1.1
            have hbW1 := hJ1.size
            have hJ1B := hJ1.2.2.2
            have huN := uvar_len NN
            obtain ⟨A4, c4, hkcut, hrb, hc4⟩ := cutB_lo (A := Ak) a7 hsh (NN : Int) rfl
            have hr4 := hrb _ _ HK0.out
            have HR4 := hid hr4
            have hd4 : ((eKey x).drop NN).length = nk - NN := hr4.1
            clear hrb hr4
            go_wp2
            apply wp_region_txtP (w.heap.size) 0 (u6.ownBlock) [none, none, none, none, none, none, some 9, none, none, none, none, none, none, none, none, none, none, none, none, none, none, none, none, none, none, none, none, none, none, none, none, none, none, none, none, none, none, none, none, none, none, none, none, none, none, none, none, none, none, none, none, none, none, none, none, none, none, none, none, none, none, none, none, none, none, none, none, none, none, none, none, none, none, none, none, none, none, none, none, none, none, none, some 0, some 1, some 2, some 3, some 4, some 5, some 6, some 7, some 8, none, none, none, none, none, none, none, none, none, none, none, none, none, none, none, none, none, none, none, none, none, none, none, none, none, none, none, none, none] [0, 3, 8, 9] [(0, 3), (3, 8), (8, 9)] [undef, _, _, undef, _, _, _, _, undef, undef] [_, [], [], _, [], [], [], [], _, _]
            case hm => rfl
            case hs => rfl
            case hst => kernel_rfl
            case hrow0 => exact fun k hk => (World.ownsRow.lt hown k hk).2
            case hput => exact OpsOK.cons (fun _ _ => rfl) (OpsOK.cons (fun _ _ => rfl) (OpsOK.cons (fun _ _ => rfl) (OpsOK.cons (fun _ _ => rfl) (OpsOK.cons (fun _ _ => rfl) (OpsOK.cons (fun _ _ => rfl) (OpsOK.cons (fun _ _ => rfl) (OpsOK.cons (fun _ _ => rfl) (OpsOK.cons (fun _ _ => rfl) (OpsOK.cons (fun _ _ => rfl) (OpsOK.nil))))))))))
            case hops =>
              refine OpsOK.cons ?_ ?_
              · intro u W K hB hz0 hz1 hd hK
                have hbW := Nat.le_trans hbW1 hB.size
                replace hK := hk_oldB hK rfl (by decide) (by rfl)
                clear hd
                have hw : u 9 = (u6) := (was_of hz1 9 (by kernel_rfl)).trans rfl
                clear hz1
                simp only [lay, Act.put, List.setIfInBounds_toArray, List.set_cons_zero, List.set_cons_succ, hw] at hK ⊢
                go_simp
                exact hK.out _ (OB.below hown (hz0 rfl)) (fun k hk => hk.symm)
              refine OpsOK.cons ?_ ?_
              · intro u W K hB hz0 hz1 hd hK
                have hbW := Nat.le_trans hbW1 hB.size
                replace hK := hk_valB hK (by decide) (by rfl)
                clear hd
                clear hz1
                simp only [lay, Act.put, List.setIfInBounds_toArray, List.set_cons_zero, List.set_cons_succ] at hK ⊢
                go_simp
                exact hK.out _ _ rfl (Below.refl _ _)
              refine OpsOK.cons ?_ ?_
              · intro u W K hB hz0 hz1 hd hK
                have hbW := Nat.le_trans hbW1 hB.size
                have h1 := fact_valB (dep_of hd 1 (by kernel_rfl) (by kernel_rfl)) (by decide)
                dsimp only [nth] at h1
                replace hK := hk_valB hK (by decide) (by rfl)
                clear hd
                clear hz1
                simp only [lay, Act.put, List.setIfInBounds_toArray, List.set_cons_zero, List.set_cons_succ, h1] at hK ⊢
                go_simp
                exact hK.out _ _ rfl (Below.refl _ _)
              refine OpsOK.cons ?_ ?_
              · intro u W K hB hz0 hz1 hd hK
                have hbW := Nat.le_trans hbW1 hB.size
                have h0 := fact_rowB (dep_of hd 0 (by kernel_rfl) (by kernel_rfl)) (by decide)
                dsimp only [nth] at h0
                have h2 := fact_valB (dep_of hd 2 (by kernel_rfl) (by kernel_rfl)) (by decide)
                dsimp only [nth] at h2
                replace hK := hk_parB hK (by decide) 0 (by rfl)
                clear hd
                clear hz1
                simp only [lay, Act.put, List.setIfInBounds_toArray, List.set_cons_zero, List.set_cons_succ, h2] at hK ⊢
                try simp only [hq1] at hK ⊢
                go_simp
                first
                  | (go_at_call 25; (with_reducible refine (refput_any _ w.heap.size L NN W h0 hbW (by omega) (by omega)).mono ?_); rintro e w1 ⟨v1, rfl, hown1, hgr1, hat1⟩; exact hK.out _ _ hown1 hgr1 hat1)
                  | (go_at_call 24; (with_reducible refine (refputbytes_any _ w.heap.size (L ++ uvar NN) A4 _ c4 ((eKey x).drop NN) W h3 hbW (HR4.out.below (hJ1B.grown hB hbW1 (OB.base_ hown))) (own_key h3 HR4.out) (by simp only [List.length_append]; omega)).mono ?_); rintro e w1 ⟨v1, rfl, hown1, hgr1, hat1⟩; exact hK.out _ _ hown1 hgr1 hat1)
              refine OpsOK.cons ?_ ?_
              · intro u W K hB hz0 hz1 hd hK
                have hbW := Nat.le_trans hbW1 hB.size
                replace hK := hk_valB hK (by decide) (by rfl)
                clear hd
                clear hz1
                simp only [lay, Act.put, List.setIfInBounds_toArray, List.set_cons_zero, List.set_cons_succ] at hK ⊢
                go_simp
                exact hK.out _ _ rfl (Below.refl _ _)
              refine OpsOK.cons ?_ ?_
              · intro u W K hB hz0 hz1 hd hK
                have hbW := Nat.le_trans hbW1 hB.size
                have h4 := fact_valB (dep_of hd 4 (by kernel_rfl) (by kernel_rfl)) (by decide)
                dsimp only [nth] at h4
                replace hK := hk_valB hK (by decide) (by rfl)
                clear hd
                clear hz1
                simp only [lay, Act.put, List.setIfInBounds_toArray, List.set_cons_zero, List.set_cons_succ, h4] at hK ⊢
                have y0 := (hbx1.grown hB hown).at_.1
                go_simp
                exact hK.out _ _ rfl (Below.refl _ _)
              refine OpsOK.cons ?_ ?_
              · intro u W K hB hz0 hz1 hd hK
                have hbW := Nat.le_trans hbW1 hB.size
                replace hK := hk_valB hK (by decide) (by rfl)
                clear hd
                clear hz1
                simp only [lay, Act.put, List.setIfInBounds_toArray, List.set_cons_zero, List.set_cons_succ] at hK ⊢
                go_simp
                exact hK.out _ _ rfl (Below.refl _ _)
              refine OpsOK.cons ?_ ?_
              · intro u W K hB hz0 hz1 hd hK
                have hbW := Nat.le_trans hbW1 hB.size
                have h5 := fact_valB (dep_of hd 5 (by kernel_rfl) (by kernel_rfl)) (by decide)
                dsimp only [nth] at h5
                have h6 := fact_valB (dep_of hd 6 (by kernel_rfl) (by kernel_rfl)) (by decide)
                dsimp only [nth] at h6
                replace hK := hk_valB hK (by decide) (by rfl)
                clear hd
                clear hz1
                simp only [lay, Act.put, List.setIfInBounds_toArray, List.set_cons_zero, List.set_cons_succ, h5, h6] at hK ⊢
                go_simp
                exact hK.out _ _ rfl (Below.refl _ _)
              refine OpsOK.cons ?_ ?_
              · intro u W K hB hz0 hz1 hd hK
                have hbW := Nat.le_trans hbW1 hB.size
                have h3 := fact_rowB (dep_of hd 3 (by kernel_rfl) (by kernel_rfl)) (by decide)
                dsimp only [nth] at h3
                have h7 := fact_valB (dep_of hd 7 (by kernel_rfl) (by kernel_rfl)) (by decide)
                dsimp only [nth] at h7
                replace hK := hk_parB hK (by decide) 3 (by rfl)
                clear hd
                clear hz1
                simp only [lay, Act.put, List.setIfInBounds_toArray, List.set_cons_zero, List.set_cons_succ, h7] at hK ⊢
                go_simp
                first
                  | (go_at_call 25; (with_reducible refine (refput_any _ w.heap.size L NN W h0 hbW (by omega) (by omega)).mono ?_); rintro e w1 ⟨v1, rfl, hown1, hgr1, hat1⟩; exact hK.out _ _ hown1 hgr1 hat1)
                  | (go_at_call 24; (with_reducible refine (refputbytes_any _ w.heap.size (L ++ uvar NN) A4 _ c4 ((eKey x).drop NN) W h3 hbW (HR4.out.below (hJ1B.grown hB hbW1 (OB.base_ hown))) (own_key h3 HR4.out) (by simp only [List.length_append]; omega)).mono ?_); rintro e w1 ⟨v1, rfl, hown1, hgr1, hat1⟩; exact hK.out _ _ hown1 hgr1 hat1)
              refine OpsOK.cons ?_ ?_
              · intro u W K hB hz0 hz1 hd hK
                have hbW := Nat.le_trans hbW1 hB.size
                have h8 := fact_rowB (dep_of hd 8 (by kernel_rfl) (by kernel_rfl)) (by decide)
                dsimp only [nth] at h8
                replace hK := hk_parB hK (by decide) 8 (by rfl)
                clear hd
                clear hz1
                simp only [lay, Act.put, List.setIfInBounds_toArray, List.set_cons_zero, List.set_cons_succ] at hK ⊢
                go_simp
                exact hK.out _ _ h8 (grown_refl _ _) (AtRow.refl _ _)
              exact OpsOK.nil
            intro u W hB hp hf
            have p9 := hp 9 (by decide) (by decide) (by decide)
            clear hp
            have h1 := fact_valB (hf 1 (by decide) (by decide)) (by decide)
            dsimp only [nth] at h1
            have h2 := fact_valB (hf 2 (by decide) (by decide)) (by decide)
            dsimp only [nth] at h2
            have h4 := fact_valB (hf 4 (by decide) (by decide)) (by decide)
            dsimp only [nth] at h4
            have h5 := fact_valB (hf 5 (by decide) (by decide)) (by decide)
            dsimp only [nth] at h5
            have h6 := fact_valB (hf 6 (by decide) (by decide)) (by decide)
            dsimp only [nth] at h6
            have h7 := fact_valB (hf 7 (by decide) (by decide)) (by decide)
            dsimp only [nth] at h7
            have h9 := fact_rowB (hf 9 (by decide) (by decide)) (by decide)
            dsimp only [nth] at h9
            clear hf
            simp only [lay, h1, h2, h4, h5, h6, h7]
            clear h1 h2 h4 h5 h6 h7
            have hJ2 := hJ1.step hB h9 p9
            have hbx2 := hbx1.grown hB hown
            generalize u 9 = v9 at *
            have huR := uvar_len ((eKey x).drop NN).length
            have hL2 : (L ++ uvar NN ++ uvar ((eKey x).drop NN).length ++ (eKey x).drop NN).length ≤ L.length + 532 := by simp only [List.length_append]; omega
            obtain ⟨L2, hL2e⟩ : ∃ L2, L ++ uvar NN ++ uvar ((eKey x).drop NN).length ++ (eKey x).drop NN = L2 := ⟨_, rfl⟩
            have HHead := hid (cut_head NN x L L2 sq hL2e HSq.out)
            rw [hL2e] at hJ2 hL2
            clear hL2e h9 p9 hJ1 hbx1 hB hown hbW1 hJ1B hkcut hd4
            generalize W = W2 at *
            have hown2 := hJ2.1
            have hbW2 := hJ2.size
            have huS := uvar_len sq
            have hq3 := wrap_u64_nat' sq hsq2
            have hq4 := wrap_u64_nat' tl htl2
            have y1 := hbx2.at_.2.1
            rw [HSq.out] at y1
            obtain ⟨G, hG⟩ : ∃ G, eGone x = G := ⟨_, rfl⟩
            have HG := hid hG
            clear hG
            cases G
            · go_wp2_with (go_at_call 25; (with_reducible refine (refput_any _ w.heap.size L2 sq _ hown2 hbW2 hsq2 (by omega)).mono ?_); rintro e w3 ⟨v3, rfl, hown3, hgr3, hat3⟩; have hJ3 := hJ2.step hgr3 hown3 hat3.place; have hbx3 := hbx2.grown hgr3 hown2; have hgx := hbx3.at_.2.2.1; rw [HG.out] at hgx; have hbW3 := hJ3.size; have hJ3B := hJ3.2.2.2; have hL3 : (L2 ++ uvar sq).length ≤ L.length + 542 := by simp only [List.length_append]; omega)
              have huT := uvar_len tl
              have huV := uvar_len (eVal x).length
              obtain ⟨L3, hL3e⟩ : ∃ L3, L2 ++ uvar sq = L3 := ⟨_, rfl⟩
              have HL3 := hid (HHead.out.trans hL3e)
              rw [hL3e] at hown3 hJ3 hL3
              clear hL3e hbx2 hJ2 hown2 hbW2 y1 hgx hgr3 hat3
              generalize w3 = W3 at *
              apply wp_region_txtP (w.heap.size) 0 (v3.ownBlock) [none, none, none, none, none, none, some 10, none, none, none, none, none, none, none, none, none, none, none, none, none, none, none, none, none, none, none, none, none, none, none, none, none, none, none, none, none, none, none, none, none, none, none, none, none, none, none, none, none, none, none, none, none, none, none, none, none, none, none, none, none, none, none, none, none, none, none, none, none, none, none, none, none, none, none, none, none, none, none, none, none, none, none, none, none, none, none, none, none, none, none, none, none, none, none, none, none, none, none, none, none, none, some 0, some 1, some 2, some 3, some 4, some 5, some 6, some 7, some 8, some 9, none, none, none, none, none, none, none, none, none] [0, 1, 2, 6, 9, 10] [(0, 2), (2, 6), (6, 9), (9, 10)] [undef, undef, undef, _, _, _, undef, _, _, undef, undef] [_, _, _, [], [], [], _, [], [], _, _]
              case hm => rfl
              case hs => rfl
              case hst => kernel_rfl
              case hrow0 => exact fun k hk => (World.ownsRow.lt hown3 k hk).2
              case hput => exact OpsOK.cons (fun _ _ => rfl) (OpsOK.cons (fun _ _ => rfl) (OpsOK.cons (fun _ _ => rfl) (OpsOK.cons (fun _ _ => rfl) (OpsOK.cons (fun _ _ => rfl) (OpsOK.cons (fun _ _ => rfl) (OpsOK.cons (fun _ _ => rfl) (OpsOK.cons (fun _ _ => rfl) (OpsOK.cons (fun _ _ => rfl) (OpsOK.cons (fun _ _ => rfl) (OpsOK.cons (fun _ _ => rfl) (OpsOK.nil)))))))))))
              case hops =>
                refine OpsOK.cons ?_ ?_
                · intro u W K hB hz0 hz1 hd hK
                  have hbW := Nat.le_trans hbW3 hB.size
                  replace hK := hk_oldB hK rfl (by decide) (by rfl)
                  clear hd
                  have hw : u 10 = (v3) := (was_of hz1 10 (by kernel_rfl)).trans rfl
                  clear hz1
                  simp only [lay, Act.put, List.setIfInBounds_toArray, List.set_cons_zero, List.set_cons_succ, hw] at hK ⊢
                  go_simp
                  exact hK.out _ (OB.below hown3 (hz0 rfl)) (fun k hk => hk.symm)
                refine OpsOK.cons ?_ ?_
                · intro u W K hB hz0 hz1 hd hK
                  have hbW := Nat.le_trans hbW3 hB.size
                  replace hK := hk_rowB hbW hK (by decide) (by decide) (by rfl)
                  clear hd
                  clear hz1
                  simp only [lay, Act.put, List.setIfInBounds_toArray, List.set_cons_zero, List.set_cons_succ] at hK ⊢
                  (go_simp; exact hK.out _ _ (OB.lit1' _ _ (Nat.le_refl _) 0 0 rfl) (below_alloc' (Below.refl _ _) _))
                refine OpsOK.cons ?_ ?_
                · intro u W K hB hz0 hz1 hd hK
                  have hbW := Nat.le_trans hbW3 hB.size
                  have h0 := fact_rowB (dep_of hd 0 (by kernel_rfl) (by kernel_rfl)) (by decide)
                  dsimp only [nth] at h0
                  have h1 := fact_rowB (dep_of hd 1 (by kernel_rfl) (by kernel_rfl)) (by decide)
                  dsimp only [nth] at h1
                  replace hK := hk_parB hK (by decide) 0 (by rfl)
                  clear hd
                  clear hz1
                  (obtain ⟨A7, c7, e7, hr7, _⟩ := h1.open_; refine stepB_append W W w.heap.size (.tmp 101) (.tmp 102) (by rfl) (by rfl) (u 0) L3 (by rfl) h0 A7 _ c7 [0] (by exact e7) hr7 (by simp only [List.length_singleton]; omega) (Below.refl _ _) hbW ?_; intro v' w' a b d f; exact hK.out _ _ (show OB _ _ _ (L3 ++ [0]) from a) d f)
                refine OpsOK.cons ?_ ?_
                · intro u W K hB hz0 hz1 hd hK
                  have hbW := Nat.le_trans hbW3 hB.size
                  replace hK := hk_valB hK (by decide) (by rfl)
                  clear hd
                  clear hz1
                  simp only [lay, Act.put, List.setIfInBounds_toArray, List.set_cons_zero, List.set_cons_succ] at hK ⊢
                  go_simp
                  exact hK.out _ _ rfl (Below.refl _ _)
                refine OpsOK.cons ?_ ?_
                · intro u W K hB hz0 hz1 hd hK
                  have hbW := Nat.le_trans hbW3 hB.size
                  have h3 := fact_valB (dep_of hd 3 (by kernel_rfl) (by kernel_rfl)) (by decide)
                  dsimp only [nth] at h3
                  replace hK := hk_valB hK (by decide) (by rfl)
                  clear hd
                  clear hz1
                  simp only [lay, Act.put, List.setIfInBounds_toArray, List.set_cons_zero, List.set_cons_succ, h3] at hK ⊢
                  have y3 := (hbx3.grown hB hown3).at_.2.2.2.1
                  go_simp
                  exact hK.out _ _ rfl (Below.refl _ _)
                refine OpsOK.cons ?_ ?_
                · intro u W K hB hz0 hz1 hd hK
                  have hbW := Nat.le_trans hbW3 hB.size
                  have h4 := fact_valB (dep_of hd 4 (by kernel_rfl) (by kernel_rfl)) (by decide)
                  dsimp only [nth] at h4
                  replace hK := hk_valB hK (by decide) (by rfl)
                  clear hd
                  clear hz1
                  simp only [lay, Act.put, List.setIfInBounds_toArray, List.set_cons_zero, List.set_cons_succ, h4] at hK ⊢
                  go_simp
                  exact hK.out _ _ rfl (Below.refl _ _)
                refine OpsOK.cons ?_ ?_
                · intro u W K hB hz0 hz1 hd hK
                  have hbW := Nat.le_trans hbW3 hB.size
                  have h2 := fact_rowB (dep_of hd 2 (by kernel_rfl) (by kernel_rfl)) (by decide)
                  dsimp only [nth] at h2
                  have h5 := fact_valB (dep_of hd 5 (by kernel_rfl) (by kernel_rfl)) (by decide)
                  dsimp only [nth] at h5
                  replace hK := hk_parB hK (by decide) 2 (by rfl)
                  clear hd
                  clear hz1
                  simp only [lay, Act.put, List.setIfInBounds_toArray, List.set_cons_zero, List.set_cons_succ, h5] at hK ⊢
                  try simp only [HTl.out, hq4] at hK ⊢
                  go_simp
                  first
                    | (go_at_call 25; (with_reducible refine (refput_any _ w.heap.size (L3 ++ [0]) tl W h2 hbW (by omega) (by simp only [List.length_append, List.length_singleton]; omega)).mono ?_); rintro e w1 ⟨v1, rfl, hown1, hgr1, hat1⟩; exact hK.out _ _ hown1 hgr1 hat1)
                    | (go_at_call 24; (with_reducible refine (refputbytes_any _ w.heap.size (L3 ++ [0] ++ uvar tl) Av _ cv (eVal x) W h6 hbW (HV0.out.below (hJ3B.grown hB hbW3 (OB.base_ hown3))) (own_key h6 HV0.out) (by simp only [List.length_append, List.length_singleton]; omega)).mono ?_); rintro e w1 ⟨v1, rfl, hown1, hgr1, hat1⟩; exact hK.out _ _ hown1 hgr1 hat1)
                refine OpsOK.cons ?_ ?_
                · intro u W K hB hz0 hz1 hd hK
                  have hbW := Nat.le_trans hbW3 hB.size
                  replace hK := hk_valB hK (by decide) (by rfl)
                  clear hd
                  clear hz1
                  simp only [lay, Act.put, List.setIfInBounds_toArray, List.set_cons_zero, List.set_cons_succ] at hK ⊢
                  go_simp
                  exact hK.out _ _ rfl (Below.refl _ _)
                refine OpsOK.cons ?_ ?_
                · intro u W K hB hz0 hz1 hd hK
                  have hbW := Nat.le_trans hbW3 hB.size
                  have h7 := fact_valB (dep_of hd 7 (by kernel_rfl) (by kernel_rfl)) (by decide)
                  dsimp only [nth] at h7
                  replace hK := hk_valB hK (by decide) (by rfl)
                  clear hd
                  clear hz1
                  simp only [lay, Act.put, List.setIfInBounds_toArray, List.set_cons_zero, List.set_cons_succ, h7] at hK ⊢
                  have y4 := (hbx3.grown hB hown3).at_.2.2.2.2
                  go_simp
                  exact hK.out _ _ rfl (Below.refl _ _)
                refine OpsOK.cons ?_ ?_
                · intro u W K hB hz0 hz1 hd hK
                  have hbW := Nat.le_trans hbW3 hB.size
                  have h6 := fact_rowB (dep_of hd 6 (by kernel_rfl) (by kernel_rfl)) (by decide)
                  dsimp only [nth] at h6
                  have h8 := fact_valB (dep_of hd 8 (by kernel_rfl) (by kernel_rfl)) (by decide)
                  dsimp only [nth] at h8
                  replace hK := hk_parB hK (by decide) 6 (by rfl)
                  clear hd
                  clear hz1
                  simp only [lay, Act.put, List.setIfInBounds_toArray, List.set_cons_zero, List.set_cons_succ, h8] at hK ⊢
                  go_simp
                  first
                    | (go_at_call 25; (with_reducible refine (refput_any _ w.heap.size (L3 ++ [0]) tl W h2 hbW (by omega) (by simp only [List.length_append, List.length_singleton]; omega)).mono ?_); rintro e w1 ⟨v1, rfl, hown1, hgr1, hat1⟩; exact hK.out _ _ hown1 hgr1 hat1)
                    | (go_at_call 24; (with_reducible refine (refputbytes_any _ w.heap.size (L3 ++ [0] ++ uvar tl) Av _ cv (eVal x) W h6 hbW (HV0.out.below (hJ3B.grown hB hbW3 (OB.base_ hown3))) (own_key h6 HV0.out) (by simp only [List.length_append, List.length_singleton]; omega)).mono ?_); rintro e w1 ⟨v1, rfl, hown1, hgr1, hat1⟩; exact hK.out _ _ hown1 hgr1 hat1)
                refine OpsOK.cons ?_ ?_
                · intro u W K hB hz0 hz1 hd hK
                  have hbW := Nat.le_trans hbW3 hB.size
                  have h9 := fact_rowB (dep_of hd 9 (by kernel_rfl) (by kernel_rfl)) (by decide)
                  dsimp only [nth] at h9
                  replace hK := hk_parB hK (by decide) 9 (by rfl)
                  clear hd
                  clear hz1
                  simp only [lay, Act.put, List.setIfInBounds_toArray, List.set_cons_zero, List.set_cons_succ] at hK ⊢
                  go_simp
                  exact hK.out _ _ h9 (grown_refl _ _) (AtRow.refl _ _)
                exact OpsOK.nil
              intro u W hB hp hf
              have p1 := hp 1 (by decide) (by decide) (by decide)
              have p10 := hp 10 (by decide) (by decide) (by decide)
              clear hp
              have h1 := fact_rowB (hf 1 (by decide) (by decide)) (by decide)
              dsimp only [nth] at h1
              have h3 := fact_valB (hf 3 (by decide) (by decide)) (by decide)
              dsimp only [nth] at h3
              have h4 := fact_valB (hf 4 (by decide) (by decide)) (by decide)
              dsimp only [nth] at h4
              have h5 := fact_valB (hf 5 (by decide) (by decide)) (by decide)
              dsimp only [nth] at h5
              have h7 := fact_valB (hf 7 (by decide) (by decide)) (by decide)
              dsimp only [nth] at h7
              have h8 := fact_valB (hf 8 (by decide) (by decide)) (by decide)
              dsimp only [nth] at h8
              have h10 := fact_rowB (hf 10 (by decide) (by decide)) (by decide)
              dsimp only [nth] at h10
              clear hf
              simp only [lay, h3, h4, h5, h7, h8]
              clear h3 h4 h5 h7 h8
              have hJ4 := hJ3.step hB h10 p10
              go_wp2
              go_roundw
              case rel => exact ⟨j + 1, by omega, by go_num, by rw [HAcc.out, HT2.out, HL3.out, bkTail_false HG.out, HTl.out, Int.toNat_natCast]; exact hJ4⟩
              case measure => simp [intOf]; omega
            · go_wp2_with (first | (go_at_call 25; (with_reducible refine (refput_any _ w.heap.size L2 sq _ hown2 hbW2 hsq2 (by omega)).mono ?_); rintro e w3 ⟨v3, rfl, hown3, hgr3, hat3⟩; have hJ3 := hJ2.step hgr3 hown3 hat3.place; have hbx3 := hbx2.grown hgr3 hown2; have hgx := hbx3.at_.2.2.1; rw [HG.out] at hgx; have hbW3 := hJ3.size; have hJ3B := hJ3.2.2.2; have hL3 : (L2 ++ uvar sq).length ≤ L.length + 542 := by simp only [List.length_append]; omega) | (at_builtin; refine wpB_append1 w _ w.heap.size rfl (.tmp 98) (.tmp 99) rfl v3 (L2 ++ uvar sq) rfl hown3 1 1 rfl 1 rfl (by omega) hJ3B hbW3 ?_; intro v4 w4 hown4 hB4 hg4 hat4))
              have hJ4 := hJ3.step hg4 hown4 hat4.place
              rw [← HHead.out] at hJ4
              go_roundw
              case rel => exact ⟨j + 1, by omega, by go_num, by rw [HAcc.out, HT2.out, bkTail_true HG.out]; exact hJ4⟩
              case measure => simp [intOf]; omega
        · obtain rfl : j = k := by omega
          have hlen := HLen.out j (Nat.le_refl _)
          have htl4 := tl_len es j
          have hslen := stK_len es j
          have HX : Hid (encK es = (accK es j ++ tlK es j) ++ fixB ((tlK es j).length / 4) 4) := hid (by have := enc_tl es; rw [HL.out] at this; exact this)
          generalize (stK es j).length = m at *
          have hm60 : m ≤ 60 := by omega
          have htd := tdiv4 htl4
          have htd2 : (tlK es j).length / 4 = m := by omega
          rw [htd2] at HX
          have htln : (tlK es j).length ≤ 300 := by omega
          have HL4 := hid htl4
          obtain ⟨hO, hU, hap, hBw⟩ := hJ
          have hbs := hBw.size
          obtain ⟨At, ct, hve, hrt, hct⟩ := hU.open_
          subst hve
          have hqm := wrap_u64_nat' m (by omega)
          clear htl4 hslen htd2
          generalize tlK es j = T at *
          generalize accK es j = L at *
          go_wp2_with (first
            | (at_builtin; refine wpB_append w _ w.heap.size rfl (.tmp 112) (.tmp 113) rfl u6 L rfl hO At T.length ct T rfl hrt (by omega) hBw hbs ?_; intro v2 w2 hown2 hB2 hg2 hat2; have hbs2 := hB2.size; have hsz : (L ++ T).length + 10 ≤ 140737488355328 := by simp only [List.length_append]; omega)
            | (go_at_call 23; (with_reducible refine (reffixed_any _ w.heap.size (L ++ T) m 4 _ hown2 hbs2 (by omega) (by omega) hsz).mono ?_); rintro r w3 ⟨v3, rfl, hown3, hgr3, hat3⟩))
          go_ret2
          exact ⟨_, rfl, by rw [HX.out]; exact hown3, hB2.grown hgr3 hbs2 (OB.base_ hown2)⟩
end Go.Proofs.Yteediedhofapkaa
