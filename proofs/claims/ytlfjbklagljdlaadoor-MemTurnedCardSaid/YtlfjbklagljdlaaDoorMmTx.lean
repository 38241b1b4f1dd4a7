/- Layer 9's laws: MemTurned: the walk. -/
import Derived.Test.YtlfjbklagljdlaaDoorMmTw
namespace Go.Proofs.YtlfjbklagljdlaaDoor
open Go.RowKit
set_option linter.unusedVariables false
set_option linter.unusedSimpArgs false

set_option maxHeartbeats 128000000 in
set_option maxRecDepth 200000 in
theorem MemTurned_walk (A : Option Addr) (n c : Nat) (es : List EntR) (w : World) (h : REnts w A n es) (hc : n ≤ c) (hT : TabOK w) :
    Calls Tryd.prog 6 #[.slice A n c] w fun e w' => e = .returned (.bool true) ∧ Below w.heap.size w w' := by
  have hm := h.2.1
  have H := hid h
  have HL := hid h.1
  have HT := hid hT
  clear h hT
  go_enter Tryd.func6, Tryd.ntmps6
  obtain ⟨N, hN⟩ : ∃ N : Nat, N = min n 60 := ⟨min n 60, rfl⟩
  have hNn : N ≤ n := by omega
  have hN60 : N ≤ 60 := by omega
  have HN := hid hN
  clear hN
  go_upto_region 2 with (first
    | (go_at_call 16; (with_reducible refine (new_any w.heap.size w (Nat.le_refl _)).mono ?_); rintro r w1 ⟨rfl, hm1, hb1⟩; have HM1 := hid hm1; clear hm1)
    | (go_at_call 16; (with_reducible refine (new_any w.heap.size w1 hb1.size).mono ?_); rintro r w2 ⟨rfl, hm2, hb2⟩; have HM2 := hid hm2; clear hm2))
  obtain ⟨ba, hba⟩ : ∃ ba, w.heap.size = ba := ⟨_, rfl⟩
  obtain ⟨bb, hbb⟩ : ∃ bb, w1.heap.size = bb := ⟨_, rfl⟩
  have hJ0 : TwoJ w w2 ba bb (es.take N) 0 [] [] := by
    rw [← hba, ← hbb]
    refine ⟨HM1.out.below hb2, HM2.out, rfl, rfl, Nat.le_refl _, Nat.le_refl _, ?_, below_then hb1 hb2⟩
    rintro i (hi | ⟨x, hx, _⟩) (hj | ⟨y, hy, _⟩)
    · have := HM1.out.size; omega
    · cases hy
    · cases hx
    · cases hx
  have HJ0 := hid hJ0
  have HBA := hid hba
  have hB02 := below_then hb1 hb2
  rw [hba, hbb]
  clear hJ0 hba hbb HM1 HM2 hb1 hb2
  go_cut [5] (fun v wx => v = .int .i64 (N : Int) ∧ wx = w2)
  case first =>
    rcases Nat.le_total n 60 with h60 | h60
    · have e : (N : Int) = (n : Int) := by have := HN.out; omega
      have h60' : (n : Int) ≤ 60 := by omega
      have hmin : min (n : Int) 60 = (n : Int) := by omega
      go_wp2
      all_goals
        go_meet
        exact ⟨congrArg (Value.int .i64) (by omega), rfl⟩
    · have e : (N : Int) = 60 := by have := HN.out; omega
      have h60' : (60 : Int) ≤ (n : Int) := by omega
      go_wp2
      all_goals
        go_meet
        exact ⟨congrArg (Value.int .i64) (by omega), rfl⟩
  case rest =>
    obtain ⟨rfl, rfl⟩ := hcut
    go_wp2
    go_loopw [21] (fun i wr => ∃ k : Nat, k ≤ N ∧ i = .int .i64 k ∧ (∀ a b, a < b → b < k → apartE (elt noEnt es a) (elt noEnt es b)) ∧ Below wc.heap.size wc wr) (fun i wr => N - (intOf i).toNat)
    case atStart => exact ⟨0, Nat.zero_le _, rfl, fun a b _ h => by omega, Below.refl _ _⟩
    case round =>
      obtain ⟨k, hk, rfl, hap, hBr⟩ := hrel
      have hBw := below_then hB02 hBr
      by_cases hlt : k < N
      · have hkn : k < n := by omega
        obtain ⟨ad, rfl, hc1⟩ := H.out.at_ hkn
        obtain ⟨Ak, nk, ck, Av, nv, cv, a0, a1, a2, a3, a4, a5, a6, a7, a8⟩ := hc1
        have HAp := hid hap
        have b0 := below_cell hBw a0
        have b1 := below_cell hBw a1
        have b2 := below_cell hBw a2
        have b3 := below_cell hBw a3
        have b4 := below_cell hBw a4
        have HNx : Hid ((∀ j, j < k → apartE (elt noEnt es j) (elt noEnt es k)) → ∀ a b, a < b → b < k + 1 → apartE (elt noEnt es a) (elt noEnt es b)) := fun h a b h1 h2 => by
          rcases Nat.lt_or_ge b k with h3 | h3
          · exact hap a b h1 h3
          · obtain rfl : b = k := by omega
            exact h a h1
        obtain ⟨x, hx⟩ : ∃ x, elt noEnt es k = x := ⟨_, rfl⟩
        rw [hx] at a1 a2 a3 a5 a6 b1 b2 b3
        have HX := hid hx
        have HK5 := hid a5
        clear hx hap a6
        by_cases hli : nk ≤ 3000 ∧ nv ≤ 3000
        · have HLi := hid (decide_eq_true hli)
          obtain ⟨cs, hs1, _, _⟩ := cutE_hi (A := some ad) hc (Nat.le_of_lt hkn) (k : Int) rfl
          clear hli
          go_wp2_with (go_at_call 17; (with_reducible refine (light_any Ak nk ck (eSeq x) (eGone x) (eTil x) Av nv cv _).mono ?_); rintro r w3 ⟨rfl, hb3⟩; rw [HLi.out]; have hBr3 := below_then hBr hb3)
          clear b0 b1 b2 b3 b4
          go_loopw [35] (fun i wr => ∃ j : Nat, j ≤ k ∧ i = .int .i64 j ∧ (∀ j', j' < j → apartE (elt noEnt es j') x) ∧ Below wc.heap.size wc wr) (fun i wr => k - (intOf i).toNat)
          case atStart => exact ⟨0, Nat.zero_le _, rfl, fun j' h => by omega, hBr3⟩
          case round =>
            obtain ⟨j, hj, rfl, hap, hBq⟩ := hrel
            have hBv := below_then hB02 hBq
            by_cases hjl : j < k
            · obtain ⟨ad2, hae, hc2⟩ := H.out.at_ (show j < n by omega)
              obtain rfl := Option.some.inj hae
              obtain ⟨Bk, mk, dk, Bv, mv, dv, d0, d1, d2, d3, d4, d5, d6, d7, d8⟩ := hc2
              have d0 := below_cell hBv d0
              have d1 := below_cell hBv d1
              have d2 := below_cell hBv d2
              have d3 := below_cell hBv d3
              have d4 := below_cell hBv d4
              have a0 := below_cell hBv a0
              have a1 := below_cell hBv a1
              have HAp2 := hid hap
              have HStep : Hid (apartE (elt noEnt es j) x → ∀ j', j' < j + 1 → apartE (elt noEnt es j') x) := fun h j' h1 => by
                rcases Nat.lt_or_ge j' j with h2 | h2
                · exact hap j' h2
                · obtain rfl : j' = j := by omega
                  exact h
              obtain ⟨y, hy⟩ : ∃ y, elt noEnt es j = y := ⟨_, rfl⟩
              rw [hy] at HStep d1 d2 d3 d5 d6
              have hbb : Below wr.heap.size wr (wr.alloc (.cells #[.slice Bk mk dk, .int .i64 (eSeq y), .bool (eGone y), .int .i64 (eTil y), .slice Bv mv dv] 28)) := below_alloc' (Below.refl _ _) _
              have e0 := below_cell hbb a0
              have e1 := below_cell hbb a1
              have cv1 := RB.conv (d5.below (below_then hBv hbb)) dk
              have cv2 := RB.conv (HK5.out.below (below_then hBv hbb)) ck
              have cv3 := fun m => RB.conv ((d5.below (below_then hBv hbb)).drewN m) dk
              have cv4 := fun m => RB.conv ((HK5.out.below (below_then hBv hbb)).drewN m) ck
              have HStr := hid (decide_str (eKey y) (eKey x))
              have hBq2 := below_then hBq hbb
              clear hy hap d5 d6
              by_cases hke : eKey y = eKey x
              · have hs2 : ((bstr (eKey y)).toList == (bstr (eKey x)).toList) = true := by rw [HStr.out]; exact decide_eq_true hke
                by_cases hsq : eSeq y = eSeq x
                · have hs3 : (eSeq y == eSeq x) = true := by rw [beq_iff_eq]; exact hsq
                  clear hke hsq
                  go_wp2
                  go_quiet (fail)
                  go_wp2_with (go_at_call 15; (with_reducible refine (awake_any _ (HT.out.below (below_drewN (below_then hB02 hBq2) _))).mono ?_); rintro r w9 ⟨rfl, hb9⟩; have hB9' := below_then (below_drewN (below_then hB02 hBq2) _) hb9)
                  go_ret
                  exact ⟨rfl, hB9'⟩
                · have hs3 : (eSeq y == eSeq x) = false := by rw [beq_eq_false_iff_ne]; exact hsq
                  have HS2 := hid (HStep.out (fun h => hsq h.2))
                  clear hke hsq
                  go_wp2
                  go_quiet (fail)
                  go_wp2
                  go_roundw
                  case rel => exact ⟨j + 1, by omega, by go_num, HS2.out, below_drewN hBq2 _⟩
                  case measure => simp [intOf]; omega
              · have hs2 : ((bstr (eKey y)).toList == (bstr (eKey x)).toList) = false := by rw [HStr.out]; exact decide_eq_false hke
                have HS2 := hid (HStep.out (fun h => hke h.1))
                clear hke
                go_wp2
                go_quiet (fail)
                go_wp2
                go_roundw
                case rel => exact ⟨j + 1, by omega, by go_num, HS2.out, below_drewN hBq2 _⟩
                case measure => simp [intOf]; omega
            · obtain rfl : j = k := by omega
              have HAp2 := hid hap
              clear hap
              go_wp2
              go_roundw
              case rel => exact ⟨j + 1, by omega, by go_num, HNx.out (fun j' hj' => by rw [HX.out]; exact HAp2.out j' hj'), hBq⟩
              case measure => simp [intOf]; omega
        · have HLi := hid (decide_eq_false hli)
          clear hli
          go_wp2_with (first
            | (go_at_call 17; (with_reducible refine (light_any Ak nk ck (eSeq x) (eGone x) (eTil x) Av nv cv _).mono ?_); rintro r w3 ⟨rfl, hb3⟩; rw [HLi.out]; have hBw3 := below_then hBw hb3)
            | (go_at_call 15; (with_reducible refine (awake_any _ (HT.out.below hBw3)).mono ?_); rintro r w9 ⟨rfl, hb9⟩; have hB9' := below_then hBw3 hb9))
          go_ret
          exact ⟨rfl, hB9'⟩
      · obtain rfl : k = N := by omega
        have HPw : Hid ((es.take k).Pairwise apartE) := pair_take (by rw [HL.out]; exact hNn) hap
        have HJ1 := hid (HJ0.out.below hBr)
        clear hap HJ0
        have hlt' : (es.take k).length = k := by rw [List.length_take, HL.out]; omega
        have HLt := hid hlt'
        have hel : ∀ j, j < k → elt noEnt (es.take k) j = elt noEnt es j := fun j hj => elt_take' _ _ _ _ hj
        have HEl := hid hel
        obtain ⟨ES, hES⟩ : ∃ ES, es.take k = ES := ⟨_, rfl⟩
        rw [hES] at HPw HJ1 HLt HEl
        clear hES hlt' hel
        go_wp2
        go_loopw [63] (fun i wr => ∃ (j : Nat) (la lb : List NodeR), j ≤ k ∧ i = .int .i64 j ∧ TwoJ w wr ba bb ES j la lb) (fun i wr => k - (intOf i).toNat)
        case atStart => exact ⟨0, [], [], Nat.zero_le _, rfl, HJ1.out⟩
        case round =>
          clear HJ1
          obtain ⟨j, la, lb, hj, rfl, hJ⟩ := hrel
          have hBv := hJ.2.2.2.2.2.2.2
          by_cases hjl : j < k
          · obtain ⟨ad, rfl, hc1⟩ := H.out.at_ (show j < n by omega)
            have hik : k - 1 - j < k := by omega
            obtain ⟨ad2, hae, hc2⟩ := H.out.at_ (show k - 1 - j < n by omega)
            obtain rfl := Option.some.inj hae
            have HJ := hid hJ
            have HSt := hid (fun (w7 : World) hA => hJ.first (w7 := w7) (by rw [HLt.out]; exact hjl) hA)
            rw [HEl.out j hjl] at HSt
            have HSe : Hid (∀ (w3 w7 : World) (la : List NodeR), MidJ w w3 ba bb ES j la lb → AddO w3 w7 w.heap.size bb lb (elt noEnt es (k - 1 - j)) → ∃ lb', TwoJ w w7 ba bb ES (j + 1) la lb') := fun w3 w7 la hm hA => hm.second (by rw [HLt.out]; exact hjl) (by rw [HLt.out, HEl.out _ hik]; exact hA)
            obtain ⟨Ak, nk, ck, Av, nv, cv, a0, a1, a2, a3, a4, a5, a6, a7, a8⟩ := hc1
            obtain ⟨Bk, mk, dk, Bv, mv, dv, d0, d1, d2, d3, d4, d5, d6, d7, d8⟩ := hc2
            have b0 := below_cell hBv a0
            have b1 := below_cell hBv a1
            have b2 := below_cell hBv a2
            have b3 := below_cell hBv a3
            have b4 := below_cell hBv a4
            have HMa := hid hJ.1
            have hla := hJ.2.2.2.2.1
            have hlb := hJ.2.2.2.2.2.1
            generalize elt noEnt es j = x at *
            generalize elt noEnt es (k - 1 - j) = y at *
            have HKV := hid (⟨a5, a6, d5, d6⟩ : _ ∧ _ ∧ _ ∧ _)
            clear a5 a6 d5 d6 hJ
            go_wp2_with (first
              | (go_at_call 18; (with_reducible refine (add_any w.heap.size ba la Ak nk ck Av nv cv x _ HMa.out (HT.out.below hBv) (HKV.out.1.below hBv) (HKV.out.2.1.below hBv) (by omega)).mono ?_); rintro r w5 ⟨rfl, hadd⟩; have HN := hid (HSt.out _ hadd); obtain ⟨la', hM⟩ := HN.out; have hB5 : Below w.heap.size w w5 := hM.2.2.2.2.2.2.2; have HMi := hid hM; have HMb := hid hM.2.1; have e0 := below_cell hB5 d0; have e1 := below_cell hB5 d1; have e2 := below_cell hB5 d2; have e3 := below_cell hB5 d3; have e4 := below_cell hB5 d4; clear hadd hM HN)
              | (go_at_call 18; (with_reducible refine (add_any w.heap.size bb lb Bk mk dk Bv mv dv y _ HMb.out (HT.out.below hB5) (HKV.out.2.2.1.below hB5) (HKV.out.2.2.2.below hB5) (by omega)).mono ?_); rintro r w7 ⟨rfl, hadd2⟩; have HN2 := hid (HSe.out _ _ _ HMi.out hadd2); clear hadd2))
            obtain ⟨lb', hl'⟩ := HN2.out
            have HL' := hid hl'
            clear hl' HN2
            go_roundw
            case rel => exact ⟨j + 1, la', lb', by omega, by go_num, HL'.out⟩
            case measure => simp [intOf]; omega
          · obtain rfl : j = k := by omega
            have hd : TwoJ w wr ba bb ES ES.length la lb := by rw [HLt.out]; exact hJ
            have hab := hd.done HPw.out
            have HA := hid hJ.1
            have HB := hid hJ.2.1
            have hla := hJ.2.2.2.2.1
            have hlb := hJ.2.2.2.2.2.1
            have hlm : (la.map nEnt).length = la.length := List.length_map _
            have HP1 := hid (fun (w3 : World) (hb : Below wr.heap.size wr w3) => all_any w.heap.size ba la w3 (HA.out.below hb) (by omega))
            have hp2 := fun (w3 : World) (hb : Below wr.heap.size wr w3) => all_any w.heap.size bb lb w3 (HB.out.below hb) (by omega)
            have HW1 := hid (fun (w3 : World) (hb : Below wr.heap.size wr w3) => weight_any w.heap.size ba la w3 (HA.out.below hb))
            have hw2 := fun (w3 : World) (hb : Below wr.heap.size wr w3) => weight_any w.heap.size bb lb w3 (HB.out.below hb)
            rw [hab] at hp2 hw2
            have HP2 := hid hp2
            have HW2 := hid hw2
            have HSrt := hid (srtB_true HA.out.srt)
            have HOwn := hid (get_own HA.out.srt)
            have HG : Hid (∀ (w3 : World) (Ak : Option Addr) (nk ck : Nat) (key : List UInt8) (s : Int), Below wr.heap.size wr w3 → RB w3 Ak nk key → Calls Tryd.prog 12 #[.pointer (some ⟨ba, 0, none⟩), .slice Ak nk ck, .int .i64 s] w3 fun r w' => GetC w3 w' (getR key s (la.map nEnt)).1 (getR key s (la.map nEnt)).2 r) := fun w3 Ak nk ck key s hb hk => by
              have := get_any w.heap.size ba la Ak nk ck key s w3 (HA.out.below hb) hk
              rw [getE_R HA.out.srt] at this
              exact this
            clear hd hab hJ HB HA hp2 hw2
            generalize la.map nEnt = La at *
            obtain ⟨m, hm0⟩ : ∃ m, La.length = m := ⟨_, rfl⟩
            have hm60 : m ≤ 60 := by omega
            generalize wtL La = W at *
            rw [← hlm] at hla
            clear hlm hla hlb
            have HM := hid hm0
            go_wp2_with (first
              | (go_at_call 21; (with_reducible refine (HP1.out _ (Below.refl _ _)).mono ?_); rintro r w3 hl3; obtain ⟨A3, c3, V3, rfl, hv3, hr3, hre3, hb3⟩ := hl3.rowP (by omega); rw [hm0] at hre3 ⊢; have HRe3 := hid hre3; clear hv3 hr3 hre3 hl3)
              | (go_at_call 21; (with_reducible refine (HP2.out _ hb3).mono ?_); rintro r w4 hl4; obtain ⟨A4, c4, V4, rfl, hv4, hr4, hre4, hb4⟩ := hl4.rowP (by omega); rw [hm0] at hre4 ⊢; have HRe4 := hid hre4; have HRe3b := hid (HRe3.out.below hb4); have hB4 := below_then hb3 hb4; clear hv4 hr4 hre4 hl4)
              | (go_at_call 20; (with_reducible refine (sameentries_any A3 c3 A4 c4 m La w4 HRe3b.out HRe4.out).mono ?_); rintro r w5 ⟨rfl, hb5⟩; have hB5 := below_then hB4 hb5; have HRe5 := hid (HRe3b.out.below hb5))
              | (go_at_call 22; (with_reducible refine (HW1.out _ hB5).mono ?_); rintro r w6 ⟨rfl, rfl⟩)
              | (go_at_call 22; (with_reducible refine (HW2.out _ hB5).mono ?_); rintro r w6 ⟨rfl, rfl⟩)
              | (go_at_call 23; (with_reducible refine (refordered_any A3 m c3 La _ HRe5.out).mono ?_); rintro r w7 ⟨rfl, hb7⟩; rw [HSrt.out]; have hB7 := below_then hB5 hb7; have HRe7 := hid (HRe5.out.below hb7)))
            clear HP1 HP2 HW1 HW2 HRe3 HRe4 HRe3b HRe5
            go_loopw [103] (fun i wr => ∃ q : Nat, q ≤ m ∧ i = .int .i64 q ∧ Below w7.heap.size w7 wr) (fun i wr => m - (intOf i).toNat)
            case atStart => exact ⟨0, Nat.zero_le _, rfl, Below.refl _ _⟩
            case round =>
              obtain ⟨q, hq, rfl, hBq⟩ := hrel
              have hBu := below_then hB7 hBq
              have hB0 := below_then hBv hBu
              by_cases hql : q < m
              · obtain ⟨ad, hA3, hc1⟩ := HRe7.out.at_ hql
                subst hA3
                obtain ⟨Ak, nk, ck, Av, nv, cv, a0, a1, a2, a3, a4, a5, a6, a7, a8⟩ := hc1
                have a0 := below_cell hBq a0
                have a1 := below_cell hBq a1
                have a2 := below_cell hBq a2
                have a3 := below_cell hBq a3
                have a4 := below_cell hBq a4
                have hown := HOwn.out (elt noEnt La q) (elt_mem (by rw [HM.out]; exact hql))
                generalize elt noEnt La q = x at *
                have hbn := heap_alloc_new wr (.cells #[.slice Ak nk ck, .int .i64 (eSeq x), .bool (eGone x), .int .i64 (eTil x), .slice Av nv cv] 28)
                have hbb : Below wr.heap.size wr (wr.alloc (.cells #[.slice Ak nk ck, .int .i64 (eSeq x), .bool (eGone x), .int .i64 (eTil x), .slice Av nv cv] 28)) := below_alloc' (Below.refl _ _) _
                have hgt := HG.out _ Ak nk ck (eKey x) (eSeq x) (below_then hBu hbb) (a5.below (below_then hBq hbb))
                rw [hown] at hgt
                have HGt := hid hgt
                have HKV := hid (⟨a5.below (below_then hBq hbb), a6.below (below_then hBq hbb)⟩ : _ ∧ _)
                clear a5 a6 hown hgt
                go_wp2_with (first
                  | (go_at_call 12; (with_reducible refine HGt.out.mono ?_); rintro r w8 ⟨kv, vv, rfl, hk8, hv8, hb8⟩; obtain ⟨A8, c8, rfl, hr81, _⟩ := hk8.open_; obtain ⟨A9, c9, rfl, hr82, _⟩ := hv8.open_; have hba := below_alloc' (Below.refl w8.heap.size w8) (.cells #[.slice A8 (eKey x).length c8, .int .i64 (eSeq x), .bool (eGone x), .int .i64 (eTil x), .slice A9 (eVal x).length c9] 28); have hb8a := below_then hb8 hba; obtain ⟨y0, y1, y2, y3, y4⟩ := box5 (blk_below hb8a hbn); have hb8b := below_then hbb hb8a)
                  | (go_at_call 14; (with_reducible refine (sameentry_any A8 (eKey x).length c8 A9 (eVal x).length c9 Ak nk ck Av nv cv (eSeq x) (eGone x) (eTil x) (eKey x) (eVal x) _ (hr81.alloc _) (hr82.alloc _) (HKV.out.1.below hb8a) (HKV.out.2.below hb8a)).mono ?_); rintro r w9 ⟨rfl, hb9⟩; have hB9 := below_then hBq (below_then hb8b hb9)))
                go_roundw
                case rel => exact ⟨q + 1, by omega, by go_num, hB9⟩
                case measure => simp [intOf]; omega
              · obtain rfl : q = m := by omega
                go_wp2_with (go_at_call 15; (with_reducible refine (awake_any _ (HT.out.below hB0)).mono ?_); rintro r w9 ⟨rfl, hb9⟩; have hB9' := below_then hB0 hb9)
                go_ret
                exact ⟨rfl, hB9'⟩
end Go.Proofs.YtlfjbklagljdlaaDoor
