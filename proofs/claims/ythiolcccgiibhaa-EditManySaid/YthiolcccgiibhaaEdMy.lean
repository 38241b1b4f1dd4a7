/- Layer 14: as many lines and numbers as may be, and more: the walk of the statement. -/
import Derived.Test.YthiolcccgiibhaaEdZ
import Derived.Lib.SmallJoins
namespace Go.Proofs.Ythiolcccgiibhaa
open Go.RowKit
set_option linter.unusedVariables false
set_option linter.unusedSimpArgs false

set_option maxHeartbeats 32000000 in
set_option maxRecDepth 100000 in
theorem EditMany_walk (zn zm : Int) (G : Bool) (w : World) (hn0 : (Lit.int .i64 zn).wf = true) (hm0 : (Lit.int .i64 zm).wf = true) :
    Calls Try.prog 5 #[.int .i64 zn, .int .i64 zm, .bool G] w fun e w' => e = .returned (.bool true) ∧ Below w.heap.size w w' := by
  obtain ⟨n, hn1, hn2⟩ := cut_mod zn 203 (by omega) (wf_i64 hn0)
  obtain ⟨m, hm1, hm2⟩ := cut_mod zm 203 (by omega) (wf_i64 hm0)
  have hn3 : (wrap64 (zn.tmod 203 + 203)).tmod 203 = (n : Int) := hn2
  have hm3 : (wrap64 (zm.tmod 203 + 203)).tmod 203 = (m : Int) := hm2
  have hw1 := wf_i64 hn0
  have hw2 := wf_i64 hm0
  clear hn2 hm2 hn0 hm0
  go_enter Try.func5, Try.ntmps5
  go_wp2
  go_loopw [26] (fun i wr => ∃ k : Nat, k ≤ n ∧ i = .int .i64 k ∧ MEx w wr (tabsM k) [] k 0) (fun i wr => n - (intOf i).toNat)
  case atStart => exact ⟨0, Nat.zero_le _, rfl, _, _, _, _, _, ME.start⟩
  case round =>
    obtain ⟨k, hk, rfl, A, c, V, Az, cz, hM⟩ := hrel
    by_cases hlt : k < n
    · have hq3 := box_at hM.1 3 (.slice A k c) rfl
      have hlV : V.length = k := by rw [hM.2.1.2.1.1, tabsM_len]
      have hwr : wrap64 ((k : Int) + 1) = (k : Int) + 1 := by unfold wrap64; omega
      have hM0 := hM.below (below_alloc' (below_alloc' (Below.refl wr.heap.size wr) (.cells #[.int .u8 97] 5 (1, 2))) (.cells #[.int .u8 98] 5 (1, 2)))
      have hA1 : LB ((wr.alloc (.cells #[.int .u8 97] 5 (1, 2))).alloc (.cells #[.int .u8 98] 5 (1, 2))) (.slice (some ⟨wr.heap.size, 0, none⟩) 1 1) 97 := ⟨_, rfl, blk_below (below_alloc' (Below.refl _ _) _) (heap_alloc_new wr _)⟩
      have hA2 : LB ((wr.alloc (.cells #[.int .u8 97] 5 (1, 2))).alloc (.cells #[.int .u8 98] 5 (1, 2))) (.slice (some ⟨wr.heap.size + 1, 0, none⟩) 1 1) 98 := by
        have h := heap_alloc_new (wr.alloc (.cells #[.int .u8 97] 5 (1, 2))) (.cells #[.int .u8 98] 5 (1, 2))
        have e : (wr.alloc (.cells #[.int .u8 97] 5 (1, 2))).heap.size = wr.heap.size + 1 := by simp
        rw [e] at h
        exact ⟨_, rfl, h⟩
      have hv0 := hM0.2.1.1
      have hB0 : Below w.heap.size w ((wr.alloc (.cells #[.int .u8 97] 5 (1, 2))).alloc (.cells #[.int .u8 98] 5 (1, 2))) := hM0.2.2.2
      have hwf : (Lit.int .i64 ((k : Int) + 1)).wf = true := wf_of_i64 (by omega) (by omega)
      have kc := fun (w : World) (C : Array Value) (n c : Nat) => Lib.run_convert_bytes_const (P := Try.prog) w 22 5 C n c Try.underlying22 Try.underlying5
      have kc2 := fun (w : World) (C : Array Value) (n c g : Nat) (hg : g = w.heap.size) => Joins.run_convert_bytes_const_at (P := Try.prog) w 22 5 C n c g hg Try.underlying22 Try.underlying5
      have kc3 := kc2 (wr.alloc (.cells #[.int .u8 97] 5 (1, 2))) #[.int .u8 98] 1 1 (wr.heap.size + 1) (by simp)
      clear kc2
      have HWF := hid hwf
      have HA1 := hid hA1
      have HA2 := hid hA2
      clear hwf hA1 hA2
      go_wp2_with (at_builtin; go_loud (refine wpV_append1 27 24 _ 5 72 Try.underlying27 tabinfo rfl (by omega) w ((wr.alloc (.cells #[.int .u8 97] 5 (1, 2))).alloc (.cells #[.int .u8 98] 5 (1, 2))) w.heap.size rfl (.tmp 30) (.tmp 38) rfl (.slice A k c) V rfl hv0 #[.int .i64 ((k : Int) + 1), .int .i64 0, .int .i64 1, .slice (some ⟨wr.heap.size, 0, none⟩) 1 1, .slice (some ⟨wr.heap.size + 1, 0, none⟩) 1 1] rfl (ones5 rfl rfl rfl rfl rfl) 1 _ (by simp) rfl (by simp only [maxLen]; omega) (by omega) hB0 hB0.size ?_); intro v8 u8 hv8 hB8 hgr _; obtain ⟨B, d8, rfl, hc8⟩ := hv8.openN (k + 1) (by rw [List.length_append, hlV]; rfl); have hL8 := hM0.pushT (t := mkTab ((k : Int) + 1) 0 1 [97] [98]) hgr hv8 HA1.out HA2.out rfl rfl HWF.out (show (Lit.int .i64 0).wf = true by decide) (show (Lit.int .i64 1).wf = true by decide); have hbx8 := blk_grown' hgr hM0.1 (hv0.ne_blk hM0.1 (by decide)); have hf8 := frozen_of_row u8 w.heap.size 3 _ _ hbx8; have hq12 := box_at hbx8 3 (.slice A k c) rfl)
      go_roundw
      case rel => exact ⟨k + 1, by omega, by go_num, hL8⟩
      case measure => simp [intOf]; omega
    · obtain rfl : k = n := by omega
      have hlN := tabsM_len k
      generalize tabsM k = TS at *
      have hMx : MEx w wr TS [] k 0 := ⟨A, c, V, Az, cz, hM⟩
      clear hM
      go_wp2
      go_loopw [43] (fun i wr => ∃ j : Nat, j ≤ m ∧ i = .int .i64 j ∧ MEx w wr TS (numsM j) k j) (fun i wr => m - (intOf i).toNat)
      case atStart => exact ⟨0, Nat.zero_le _, rfl, hMx⟩
      case round =>
        obtain ⟨j, hj, rfl, A, c, V, Az, cz, hM⟩ := hrel
        by_cases hlt : j < m
        · have hq3 := box_at hM.1 4 (.slice Az j cz) rfl
          have hlZ : (zcells (numsM j)).length = j := by rw [zcells_len, numsM_len]
          have hwr : wrap64 ((j : Int) + 1) = (j : Int) + 1 := by unfold wrap64; omega
          have hz0 := hM.2.2.1.1
          have hB0 : Below w.heap.size w wr := hM.2.2.2
          have HWF : Hid ((Lit.int .i64 ((j : Int) + 1)).wf = true) := wf_of_i64 (by omega) (by omega)
          go_wp2_with (at_builtin; go_loud (refine wpV_append1 28 2 _ 1 8 Try.underlying28 i64info rfl (by omega) w wr w.heap.size rfl (.tmp 47) (.tmp 50) rfl (.slice Az j cz) (zcells (numsM j)) rfl hz0 #[.int .i64 ((j : Int) + 1)] rfl (ones1 rfl) 1 _ (by simp) rfl (by rw [hlZ]; simp only [maxLen]; omega) (by omega) hB0 hB0.size ?_); intro v8 u8 hv8 hB8 hgr _; obtain ⟨B, d8, rfl, hc8⟩ := hv8.openN (j + 1) (by rw [List.length_append, hlZ]; rfl); have hL8 := hM.pushZ (z := (j : Int) + 1) hgr hv8 HWF.out; have hbx8 := blk_grown' hgr hM.1 (hz0.ne_blk hM.1 (by decide)); have hf8 := frozen_of_row u8 w.heap.size 4 _ _ hbx8; have hq12 := box_at hbx8 4 (.slice Az j cz) rfl)
          go_roundw
          case rel => exact ⟨j + 1, by omega, by go_num, hL8⟩
          case measure => simp [intOf]; omega
        · obtain rfl : j = m := by omega
          have hlM := numsM_len j
          generalize numsM j = ZS at *
          cases G with
          | false =>
            have hME2 : ∃ ts zs V, ME w wr ts zs k j A c V Az cz := ⟨_, _, _, hM⟩
            clear hM
            obtain ⟨ts, zs, V2, hM2⟩ := hME2
            obtain ⟨T1, hcc, Z1, hcz⟩ := hM2.ops (by omega) (by omega)
            have hbxx := hM2.1
            have hBelow := hM2.2.2.2
            have hlts := T1.1
            have hlzs := Z1.1
            have kq0 := box_at hbxx 0 (.int .i64 0) rfl
            have kq1 := box_at hbxx 1 (.int .i64 0) rfl
            have kq2 := box_at hbxx 2 (.int .i64 0) rfl
            have kq3 := box_at hbxx 3 (.slice A k c) rfl
            have kq4 := box_at hbxx 4 (.slice Az j cz) rfl
            clear hM2
            cases hMM : mayEd 0 0 0 ts zs with
            | true =>
              obtain ⟨X, hX⟩ : ∃ X, encE 0 0 0 ts zs = X := ⟨_, rfl⟩
              obtain ⟨l1, l2⟩ := encE_len hMM
              have q1 := dec_more hMM []
              rw [hX] at l1 l2 q1
              rw [List.append_nil] at q1
              obtain ⟨N, hN⟩ : ∃ N, X.length = N := ⟨_, rfl⟩
              rw [hN] at l1 l2
              have HM := hid hMM
              have HX := hid hX
              have HN := hid hN
              have HD := hid (show decE X = ((0 : Int).toNat, (0 : Int).toNat, (0 : Int).toNat, ts, zs, 0) from q1)
              have HLA := hid hlts
              have HLR := hid hlzs
              clear hMM hX hN q1 hlts hlzs
              go_wp2_with (first
                | (go_at_call 11; (with_reducible refine (encode_any 0 0 0 A k c ts Az j cz zs _ T1 Z1).mono ?_); rintro e w2 ⟨v2, rfl, hown2, hb2⟩; rw [HM.out]; simp only [if_true]; rw [HX.out] at hown2; obtain ⟨A2, c2, rfl, hr2, hc2⟩ := hown2.openN N HN.out; have hbx2 := blk_below hb2 hbxx; have T2 := T1.below hb2; have Z2 := Z1.below hb2; have hBB2 := below_then hBelow hb2; have kb0 := box_at hbx2 0 (.int .i64 0) rfl; have kb1 := box_at hbx2 1 (.int .i64 0) rfl; have kb2 := box_at hbx2 2 (.int .i64 0) rfl; have kb3 := box_at hbx2 3 (.slice A k c) rfl; have kb4 := box_at hbx2 4 (.slice Az j cz) rfl)
                | (go_at_call 12; (with_reducible refine (refenc_any 0 0 0 A k c ts Az j cz zs _ T2 hcc Z2 hcz).mono ?_); rintro e w3 ⟨v3, rfl, hown3, hb3⟩; rw [HM.out]; simp only [if_true]; rw [HX.out] at hown3; have hbx3 := blk_below hb3 hbx2; have T3 := T2.below hb3; have Z3 := Z2.below hb3; have hBB3 := below_then hBB2 hb3; have hown4 := hown2.below hb3; have hr3 := hr2.below hb3)
                | (go_at_call 15; (with_reducible refine (decode_any A2 N c2 X _ hr3 hc2 (by omega)).mono ?_); rintro e w4 ⟨v4, rfl, hC4, hb4⟩; obtain ⟨A5, c5, B5, d5, rfl, hO4, hI4⟩ := hC4.get HD.out (by omega) (by omega) (by omega) HLA.out HLR.out; rw [HD.out]; have hY := below_then hb4 (below_alloc' (Below.refl _ _) (.cells #[.int .i64 0, .int .i64 0, .int .i64 0, .slice A5 k c5, .slice B5 j d5] 30)); have hbx5 := blk_below hY hbx3; have T5 := T3.below hY; have Z5 := Z3.below hY; have kc0 := box_at hbx5 0 (.int .i64 0) rfl; have kc1 := box_at hbx5 1 (.int .i64 0) rfl; have kc2 := box_at hbx5 2 (.int .i64 0) rfl; have kc3 := box_at hbx5 3 (.slice A k c) rfl; have kc4 := box_at hbx5 4 (.slice Az j cz) rfl; have hO5 := hO4.below (below_alloc' (Below.refl _ _) (.cells #[.int .i64 0, .int .i64 0, .int .i64 0, .slice A5 k c5, .slice B5 j d5] 30)); have hI5 := hI4.below (below_alloc' (Below.refl _ _) (.cells #[.int .i64 0, .int .i64 0, .int .i64 0, .slice A5 k c5, .slice B5 j d5] 30)); have hcv1 := OB.conv (hown4.below hY); have hcv2 := OB.conv (hown3.below hY); have hBB5 := below_then hBB3 hY)
                | (go_at_call 16; (with_reducible refine (sameedit_any 0 0 0 A5 c5 A c k ts B5 d5 Az cz j zs _ hO5 T5 hI5 Z5).mono ?_); rintro e w5 ⟨rfl, hb5⟩; have hBB6 := below_then hBB5 hb5)
                | (go_at_call 9; (with_reducible refine (awake_any _).mono ?_); rintro e w6 ⟨rfl, hbz⟩))
              go_ret
              exact ⟨rfl, below_then hBB6 hbz⟩
            | false =>
              have HM := hid hMM
              have HX : Hid (encE 0 0 0 ts zs = []) := by unfold Hid encE; rw [hMM]; rfl
              obtain ⟨e0, he0, hne0⟩ : ∃ e0, (decE []).2.2.2.2.2 = e0 ∧ e0 ≠ 0 := ⟨_, rfl, by decide +kernel⟩
              have hz0 : ((e0 : Int) == 0) = false := by rw [beq_eq_false_iff_ne]; omega
              have HE0 := hid he0
              clear hMM he0 hlts hlzs
              go_wp2_with (first
                | (go_at_call 11; (with_reducible refine (encode_any 0 0 0 A k c ts Az j cz zs _ T1 Z1).mono ?_); rintro e w2 ⟨v2, rfl, hown2, hb2⟩; rw [HM.out]; simp only [Bool.false_eq_true, if_false]; rw [HX.out] at hown2; obtain ⟨A2, c2, rfl, hr2, hc2⟩ := hown2.openN 0 rfl; have hbx2 := blk_below hb2 hbxx; have T2 := T1.below hb2; have Z2 := Z1.below hb2; have hBB2 := below_then hBelow hb2; have kb0 := box_at hbx2 0 (.int .i64 0) rfl; have kb1 := box_at hbx2 1 (.int .i64 0) rfl; have kb2 := box_at hbx2 2 (.int .i64 0) rfl; have kb3 := box_at hbx2 3 (.slice A k c) rfl; have kb4 := box_at hbx2 4 (.slice Az j cz) rfl)
                | (go_at_call 12; (with_reducible refine (refenc_any 0 0 0 A k c ts Az j cz zs _ T2 hcc Z2 hcz).mono ?_); rintro e w3 ⟨v3, rfl, hown3, hb3⟩; rw [HM.out]; simp only [Bool.false_eq_true, if_false]; rw [HX.out] at hown3; have hBB3 := below_then hBB2 hb3; have hown4 := hown2.below hb3; have hr3 := hr2.below hb3)
                | (go_at_call 15; (with_reducible refine (decode_any A2 0 c2 [] _ hr3 hc2 (by omega)).mono ?_); rintro e w4 ⟨v4, rfl, hC4, hb4⟩; obtain ⟨p1, p2, p3, A6, n6, c6, B6, m6, d6, rfl⟩ := hC4.1; rw [HE0.out]; have hY := below_then hb4 (below_alloc' (Below.refl _ _) (.cells #[.int .i64 p1, .int .i64 p2, .int .i64 p3, .slice A6 n6 c6, .slice B6 m6 d6] 30)); have hcv1 := OB.conv (hown4.below hY); have hcv2 := OB.conv (hown3.below hY); have hBB5 := below_then hBB3 hY)
                | (go_at_call 9; (with_reducible refine (awake_any _).mono ?_); rintro e w6 ⟨rfl, hbz⟩))
              go_ret
              exact ⟨rfl, below_then hBB5 hbz⟩
          | true =>
            by_cases h1 : 1 < k
            · have c1 : (1 : Int) < (k : Int) := by omega
              have c2 : ¬ (k : Int) < 2 := by omega
              obtain ⟨p, hp⟩ : ∃ p, k = p + 1 := ⟨k - 1, by omega⟩
              have hpk : p < k := by omega
              have hix : IntKind.i64.wrap ((k : Int) - 1) = (p : Int) := by rw [IntKind.wrap_i64]; omega
              have hix2 : wrap64 ((k : Int) - 1) = (p : Int) := by unfold wrap64; omega
              have hlV : V.length = k := by rw [hM.2.1.2.1.1, hlN]
              obtain ⟨g, c', e, hg1, hg2, hcc'⟩ := hM.2.1.1.form (by omega)
              injection e with e1 e2 e3
              subst e1
              obtain ⟨cur, hblk⟩ := hM.2.1.1.blk
              have hov : OV wr w.heap.size 24 5 (.slice (some ⟨g, 0, none⟩) V.length c) V := by rw [hlV]; exact hM.2.1.1
              obtain ⟨lv, mv, xa, xb, hx, _⟩ := hM.2.1.2.1.2 p (by omega)
              have hcell := hov.cell (j := p) (i := 0) (by omega) (by omega)
              rw [hx] at hcell
              have hcell2 : wr.cell? ⟨g, p * 5, none⟩ = some (.int .i64 (tNum (elt noTab TS p))) := hcell
              have hfz := frozen_of_row wr g (p * 5) _ _ hblk
              have hq3 := box_at hM.1 3 (.slice (some ⟨g, 0, none⟩) k c) rfl
              have hMp : ME w wr TS ZS (p + 1) j (some ⟨g, 0, none⟩) c V Az cz := by rw [← hp]; exact hM
              have hME2 : ∃ ts zs V, ME w (wr.setCell ⟨g, p * 5, none⟩ (.int .i64 1)) ts zs k j (some ⟨g, 0, none⟩) c V Az cz := by
                obtain ⟨V', t, h⟩ := hMp.lastT 1 (by decide)
                rw [← hp] at h
                exact ⟨_, _, _, h⟩
              clear hM hMp hov hx hcell e2 e3 hcc' hp
              obtain ⟨ts, zs, V2, hM2⟩ := hME2
              obtain ⟨T1, hcc, Z1, hcz⟩ := hM2.ops (by omega) (by omega)
              have hbxx := hM2.1
              have hBelow := hM2.2.2.2
              have hlts := T1.1
              have hlzs := Z1.1
              have kq0 := box_at hbxx 0 (.int .i64 0) rfl
              have kq1 := box_at hbxx 1 (.int .i64 0) rfl
              have kq2 := box_at hbxx 2 (.int .i64 0) rfl
              have kq3 := box_at hbxx 3 (.slice (some ⟨g, 0, none⟩) k c) rfl
              have kq4 := box_at hbxx 4 (.slice Az j cz) rfl
              clear hM2
              cases hMM : mayEd 0 0 0 ts zs with
              | true =>
                obtain ⟨X, hX⟩ : ∃ X, encE 0 0 0 ts zs = X := ⟨_, rfl⟩
                obtain ⟨l1, l2⟩ := encE_len hMM
                have q1 := dec_more hMM []
                rw [hX] at l1 l2 q1
                rw [List.append_nil] at q1
                obtain ⟨N, hN⟩ : ∃ N, X.length = N := ⟨_, rfl⟩
                rw [hN] at l1 l2
                have HM := hid hMM
                have HX := hid hX
                have HN := hid hN
                have HD := hid (show decE X = ((0 : Int).toNat, (0 : Int).toNat, (0 : Int).toNat, ts, zs, 0) from q1)
                have HLA := hid hlts
                have HLR := hid hlzs
                clear hMM hX hN q1 hlts hlzs
                go_wp2_with (first
                  | (go_at_call 11; (with_reducible refine (encode_any 0 0 0 (some ⟨g, 0, none⟩) k c ts Az j cz zs _ T1 Z1).mono ?_); rintro e w2 ⟨v2, rfl, hown2, hb2⟩; rw [HM.out]; simp only [if_true]; rw [HX.out] at hown2; obtain ⟨A2, c2, rfl, hr2, hc2⟩ := hown2.openN N HN.out; have hbx2 := blk_below hb2 hbxx; have T2 := T1.below hb2; have Z2 := Z1.below hb2; have hBB2 := below_then hBelow hb2; have kb0 := box_at hbx2 0 (.int .i64 0) rfl; have kb1 := box_at hbx2 1 (.int .i64 0) rfl; have kb2 := box_at hbx2 2 (.int .i64 0) rfl; have kb3 := box_at hbx2 3 (.slice (some ⟨g, 0, none⟩) k c) rfl; have kb4 := box_at hbx2 4 (.slice Az j cz) rfl)
                  | (go_at_call 12; (with_reducible refine (refenc_any 0 0 0 (some ⟨g, 0, none⟩) k c ts Az j cz zs _ T2 hcc Z2 hcz).mono ?_); rintro e w3 ⟨v3, rfl, hown3, hb3⟩; rw [HM.out]; simp only [if_true]; rw [HX.out] at hown3; have hbx3 := blk_below hb3 hbx2; have T3 := T2.below hb3; have Z3 := Z2.below hb3; have hBB3 := below_then hBB2 hb3; have hown4 := hown2.below hb3; have hr3 := hr2.below hb3)
                  | (go_at_call 15; (with_reducible refine (decode_any A2 N c2 X _ hr3 hc2 (by omega)).mono ?_); rintro e w4 ⟨v4, rfl, hC4, hb4⟩; obtain ⟨A5, c5, B5, d5, rfl, hO4, hI4⟩ := hC4.get HD.out (by omega) (by omega) (by omega) HLA.out HLR.out; rw [HD.out]; have hY := below_then hb4 (below_alloc' (Below.refl _ _) (.cells #[.int .i64 0, .int .i64 0, .int .i64 0, .slice A5 k c5, .slice B5 j d5] 30)); have hbx5 := blk_below hY hbx3; have T5 := T3.below hY; have Z5 := Z3.below hY; have kc0 := box_at hbx5 0 (.int .i64 0) rfl; have kc1 := box_at hbx5 1 (.int .i64 0) rfl; have kc2 := box_at hbx5 2 (.int .i64 0) rfl; have kc3 := box_at hbx5 3 (.slice (some ⟨g, 0, none⟩) k c) rfl; have kc4 := box_at hbx5 4 (.slice Az j cz) rfl; have hO5 := hO4.below (below_alloc' (Below.refl _ _) (.cells #[.int .i64 0, .int .i64 0, .int .i64 0, .slice A5 k c5, .slice B5 j d5] 30)); have hI5 := hI4.below (below_alloc' (Below.refl _ _) (.cells #[.int .i64 0, .int .i64 0, .int .i64 0, .slice A5 k c5, .slice B5 j d5] 30)); have hcv1 := OB.conv (hown4.below hY); have hcv2 := OB.conv (hown3.below hY); have hBB5 := below_then hBB3 hY)
                  | (go_at_call 16; (with_reducible refine (sameedit_any 0 0 0 A5 c5 (some ⟨g, 0, none⟩) c k ts B5 d5 Az cz j zs _ hO5 T5 hI5 Z5).mono ?_); rintro e w5 ⟨rfl, hb5⟩; have hBB6 := below_then hBB5 hb5)
                  | (go_at_call 9; (with_reducible refine (awake_any _).mono ?_); rintro e w6 ⟨rfl, hbz⟩))
                go_ret
                exact ⟨rfl, below_then hBB6 hbz⟩
              | false =>
                have HM := hid hMM
                have HX : Hid (encE 0 0 0 ts zs = []) := by unfold Hid encE; rw [hMM]; rfl
                obtain ⟨e0, he0, hne0⟩ : ∃ e0, (decE []).2.2.2.2.2 = e0 ∧ e0 ≠ 0 := ⟨_, rfl, by decide +kernel⟩
                have hz0 : ((e0 : Int) == 0) = false := by rw [beq_eq_false_iff_ne]; omega
                have HE0 := hid he0
                clear hMM he0 hlts hlzs
                go_wp2_with (first
                  | (go_at_call 11; (with_reducible refine (encode_any 0 0 0 (some ⟨g, 0, none⟩) k c ts Az j cz zs _ T1 Z1).mono ?_); rintro e w2 ⟨v2, rfl, hown2, hb2⟩; rw [HM.out]; simp only [Bool.false_eq_true, if_false]; rw [HX.out] at hown2; obtain ⟨A2, c2, rfl, hr2, hc2⟩ := hown2.openN 0 rfl; have hbx2 := blk_below hb2 hbxx; have T2 := T1.below hb2; have Z2 := Z1.below hb2; have hBB2 := below_then hBelow hb2; have kb0 := box_at hbx2 0 (.int .i64 0) rfl; have kb1 := box_at hbx2 1 (.int .i64 0) rfl; have kb2 := box_at hbx2 2 (.int .i64 0) rfl; have kb3 := box_at hbx2 3 (.slice (some ⟨g, 0, none⟩) k c) rfl; have kb4 := box_at hbx2 4 (.slice Az j cz) rfl)
                  | (go_at_call 12; (with_reducible refine (refenc_any 0 0 0 (some ⟨g, 0, none⟩) k c ts Az j cz zs _ T2 hcc Z2 hcz).mono ?_); rintro e w3 ⟨v3, rfl, hown3, hb3⟩; rw [HM.out]; simp only [Bool.false_eq_true, if_false]; rw [HX.out] at hown3; have hBB3 := below_then hBB2 hb3; have hown4 := hown2.below hb3; have hr3 := hr2.below hb3)
                  | (go_at_call 15; (with_reducible refine (decode_any A2 0 c2 [] _ hr3 hc2 (by omega)).mono ?_); rintro e w4 ⟨v4, rfl, hC4, hb4⟩; obtain ⟨p1, p2, p3, A6, n6, c6, B6, m6, d6, rfl⟩ := hC4.1; rw [HE0.out]; have hY := below_then hb4 (below_alloc' (Below.refl _ _) (.cells #[.int .i64 p1, .int .i64 p2, .int .i64 p3, .slice A6 n6 c6, .slice B6 m6 d6] 30)); have hcv1 := OB.conv (hown4.below hY); have hcv2 := OB.conv (hown3.below hY); have hBB5 := below_then hBB3 hY)
                  | (go_at_call 9; (with_reducible refine (awake_any _).mono ?_); rintro e w6 ⟨rfl, hbz⟩))
                go_ret
                exact ⟨rfl, below_then hBB5 hbz⟩
            · have c1 : ¬ (1 : Int) < (k : Int) := by omega
              have c2 : (k : Int) < 2 := by omega
              by_cases h2 : 1 < j
              · have c3 : (1 : Int) < (j : Int) := by omega
                obtain ⟨p, hp⟩ : ∃ p, j = p + 1 := ⟨j - 1, by omega⟩
                have hpk : p < j := by omega
                have hix : IntKind.i64.wrap ((j : Int) - 1) = (p : Int) := by rw [IntKind.wrap_i64]; omega
                have hix2 : wrap64 ((j : Int) - 1) = (p : Int) := by unfold wrap64; omega
                have hlV : (zcells ZS).length = j := by rw [zcells_len, hlM]
                obtain ⟨g, c', e, hg1, hg2, hcc'⟩ := hM.2.2.1.1.form (by omega)
                injection e with e1 e2 e3
                subst e1
                obtain ⟨cur, hblk⟩ := hM.2.2.1.1.blk
                have hov : OV wr w.heap.size 2 1 (.slice (some ⟨g, 0, none⟩) (zcells ZS).length cz) (zcells ZS) := by rw [hlV]; exact hM.2.2.1.1
                have hcell := hov.cell (j := p) (i := 0) (by omega) (by omega)
                have hzp : (elt [] (zcells ZS) p)[0]? = some (.int .i64 (elt 0 ZS p)) := by
                  have : p < ZS.length := by rw [hlM]; exact hpk
                  simp [zcells, elt, this]
                rw [hzp, Nat.mul_one, Nat.add_zero] at hcell
                have hfz := frozen_of_row wr g p _ _ hblk
                have hq3 := box_at hM.1 4 (.slice (some ⟨g, 0, none⟩) j cz) rfl
                have hMp : ME w wr TS ZS k (p + 1) A c V (some ⟨g, 0, none⟩) cz := by rw [← hp]; exact hM
                have hME2 : ∃ ts zs V, ME w (wr.setCell ⟨g, p, none⟩ (.int .i64 1)) ts zs k j A c V (some ⟨g, 0, none⟩) cz := by
                  have h := hMp.lastZ 1 (by decide)
                  rw [← hp] at h
                  exact ⟨_, _, _, h⟩
                clear hM hMp hov hzp e2 e3 hcc' hp
                obtain ⟨ts, zs, V2, hM2⟩ := hME2
                obtain ⟨T1, hcc, Z1, hcz⟩ := hM2.ops (by omega) (by omega)
                have hbxx := hM2.1
                have hBelow := hM2.2.2.2
                have hlts := T1.1
                have hlzs := Z1.1
                have kq0 := box_at hbxx 0 (.int .i64 0) rfl
                have kq1 := box_at hbxx 1 (.int .i64 0) rfl
                have kq2 := box_at hbxx 2 (.int .i64 0) rfl
                have kq3 := box_at hbxx 3 (.slice A k c) rfl
                have kq4 := box_at hbxx 4 (.slice (some ⟨g, 0, none⟩) j cz) rfl
                clear hM2
                cases hMM : mayEd 0 0 0 ts zs with
                | true =>
                  obtain ⟨X, hX⟩ : ∃ X, encE 0 0 0 ts zs = X := ⟨_, rfl⟩
                  obtain ⟨l1, l2⟩ := encE_len hMM
                  have q1 := dec_more hMM []
                  rw [hX] at l1 l2 q1
                  rw [List.append_nil] at q1
                  obtain ⟨N, hN⟩ : ∃ N, X.length = N := ⟨_, rfl⟩
                  rw [hN] at l1 l2
                  have HM := hid hMM
                  have HX := hid hX
                  have HN := hid hN
                  have HD := hid (show decE X = ((0 : Int).toNat, (0 : Int).toNat, (0 : Int).toNat, ts, zs, 0) from q1)
                  have HLA := hid hlts
                  have HLR := hid hlzs
                  clear hMM hX hN q1 hlts hlzs
                  go_wp2_with (first
                    | (go_at_call 11; (with_reducible refine (encode_any 0 0 0 A k c ts (some ⟨g, 0, none⟩) j cz zs _ T1 Z1).mono ?_); rintro e w2 ⟨v2, rfl, hown2, hb2⟩; rw [HM.out]; simp only [if_true]; rw [HX.out] at hown2; obtain ⟨A2, c2, rfl, hr2, hc2⟩ := hown2.openN N HN.out; have hbx2 := blk_below hb2 hbxx; have T2 := T1.below hb2; have Z2 := Z1.below hb2; have hBB2 := below_then hBelow hb2; have kb0 := box_at hbx2 0 (.int .i64 0) rfl; have kb1 := box_at hbx2 1 (.int .i64 0) rfl; have kb2 := box_at hbx2 2 (.int .i64 0) rfl; have kb3 := box_at hbx2 3 (.slice A k c) rfl; have kb4 := box_at hbx2 4 (.slice (some ⟨g, 0, none⟩) j cz) rfl)
                    | (go_at_call 12; (with_reducible refine (refenc_any 0 0 0 A k c ts (some ⟨g, 0, none⟩) j cz zs _ T2 hcc Z2 hcz).mono ?_); rintro e w3 ⟨v3, rfl, hown3, hb3⟩; rw [HM.out]; simp only [if_true]; rw [HX.out] at hown3; have hbx3 := blk_below hb3 hbx2; have T3 := T2.below hb3; have Z3 := Z2.below hb3; have hBB3 := below_then hBB2 hb3; have hown4 := hown2.below hb3; have hr3 := hr2.below hb3)
                    | (go_at_call 15; (with_reducible refine (decode_any A2 N c2 X _ hr3 hc2 (by omega)).mono ?_); rintro e w4 ⟨v4, rfl, hC4, hb4⟩; obtain ⟨A5, c5, B5, d5, rfl, hO4, hI4⟩ := hC4.get HD.out (by omega) (by omega) (by omega) HLA.out HLR.out; rw [HD.out]; have hY := below_then hb4 (below_alloc' (Below.refl _ _) (.cells #[.int .i64 0, .int .i64 0, .int .i64 0, .slice A5 k c5, .slice B5 j d5] 30)); have hbx5 := blk_below hY hbx3; have T5 := T3.below hY; have Z5 := Z3.below hY; have kc0 := box_at hbx5 0 (.int .i64 0) rfl; have kc1 := box_at hbx5 1 (.int .i64 0) rfl; have kc2 := box_at hbx5 2 (.int .i64 0) rfl; have kc3 := box_at hbx5 3 (.slice A k c) rfl; have kc4 := box_at hbx5 4 (.slice (some ⟨g, 0, none⟩) j cz) rfl; have hO5 := hO4.below (below_alloc' (Below.refl _ _) (.cells #[.int .i64 0, .int .i64 0, .int .i64 0, .slice A5 k c5, .slice B5 j d5] 30)); have hI5 := hI4.below (below_alloc' (Below.refl _ _) (.cells #[.int .i64 0, .int .i64 0, .int .i64 0, .slice A5 k c5, .slice B5 j d5] 30)); have hcv1 := OB.conv (hown4.below hY); have hcv2 := OB.conv (hown3.below hY); have hBB5 := below_then hBB3 hY)
                    | (go_at_call 16; (with_reducible refine (sameedit_any 0 0 0 A5 c5 A c k ts B5 d5 (some ⟨g, 0, none⟩) cz j zs _ hO5 T5 hI5 Z5).mono ?_); rintro e w5 ⟨rfl, hb5⟩; have hBB6 := below_then hBB5 hb5)
                    | (go_at_call 9; (with_reducible refine (awake_any _).mono ?_); rintro e w6 ⟨rfl, hbz⟩))
                  go_ret
                  exact ⟨rfl, below_then hBB6 hbz⟩
                | false =>
                  have HM := hid hMM
                  have HX : Hid (encE 0 0 0 ts zs = []) := by unfold Hid encE; rw [hMM]; rfl
                  obtain ⟨e0, he0, hne0⟩ : ∃ e0, (decE []).2.2.2.2.2 = e0 ∧ e0 ≠ 0 := ⟨_, rfl, by decide +kernel⟩
                  have hz0 : ((e0 : Int) == 0) = false := by rw [beq_eq_false_iff_ne]; omega
                  have HE0 := hid he0
                  clear hMM he0 hlts hlzs
                  go_wp2_with (first
                    | (go_at_call 11; (with_reducible refine (encode_any 0 0 0 A k c ts (some ⟨g, 0, none⟩) j cz zs _ T1 Z1).mono ?_); rintro e w2 ⟨v2, rfl, hown2, hb2⟩; rw [HM.out]; simp only [Bool.false_eq_true, if_false]; rw [HX.out] at hown2; obtain ⟨A2, c2, rfl, hr2, hc2⟩ := hown2.openN 0 rfl; have hbx2 := blk_below hb2 hbxx; have T2 := T1.below hb2; have Z2 := Z1.below hb2; have hBB2 := below_then hBelow hb2; have kb0 := box_at hbx2 0 (.int .i64 0) rfl; have kb1 := box_at hbx2 1 (.int .i64 0) rfl; have kb2 := box_at hbx2 2 (.int .i64 0) rfl; have kb3 := box_at hbx2 3 (.slice A k c) rfl; have kb4 := box_at hbx2 4 (.slice (some ⟨g, 0, none⟩) j cz) rfl)
                    | (go_at_call 12; (with_reducible refine (refenc_any 0 0 0 A k c ts (some ⟨g, 0, none⟩) j cz zs _ T2 hcc Z2 hcz).mono ?_); rintro e w3 ⟨v3, rfl, hown3, hb3⟩; rw [HM.out]; simp only [Bool.false_eq_true, if_false]; rw [HX.out] at hown3; have hBB3 := below_then hBB2 hb3; have hown4 := hown2.below hb3; have hr3 := hr2.below hb3)
                    | (go_at_call 15; (with_reducible refine (decode_any A2 0 c2 [] _ hr3 hc2 (by omega)).mono ?_); rintro e w4 ⟨v4, rfl, hC4, hb4⟩; obtain ⟨p1, p2, p3, A6, n6, c6, B6, m6, d6, rfl⟩ := hC4.1; rw [HE0.out]; have hY := below_then hb4 (below_alloc' (Below.refl _ _) (.cells #[.int .i64 p1, .int .i64 p2, .int .i64 p3, .slice A6 n6 c6, .slice B6 m6 d6] 30)); have hcv1 := OB.conv (hown4.below hY); have hcv2 := OB.conv (hown3.below hY); have hBB5 := below_then hBB3 hY)
                    | (go_at_call 9; (with_reducible refine (awake_any _).mono ?_); rintro e w6 ⟨rfl, hbz⟩))
                  go_ret
                  exact ⟨rfl, below_then hBB5 hbz⟩
              · have c3 : ¬ (1 : Int) < (j : Int) := by omega
                have hME2 : ∃ ts zs V, ME w wr ts zs k j A c V Az cz := ⟨_, _, _, hM⟩
                clear hM
                obtain ⟨ts, zs, V2, hM2⟩ := hME2
                obtain ⟨T1, hcc, Z1, hcz⟩ := hM2.ops (by omega) (by omega)
                have hbxx := hM2.1
                have hBelow := hM2.2.2.2
                have hlts := T1.1
                have hlzs := Z1.1
                have kq0 := box_at hbxx 0 (.int .i64 0) rfl
                have kq1 := box_at hbxx 1 (.int .i64 0) rfl
                have kq2 := box_at hbxx 2 (.int .i64 0) rfl
                have kq3 := box_at hbxx 3 (.slice A k c) rfl
                have kq4 := box_at hbxx 4 (.slice Az j cz) rfl
                clear hM2
                cases hMM : mayEd 0 0 0 ts zs with
                | true =>
                  obtain ⟨X, hX⟩ : ∃ X, encE 0 0 0 ts zs = X := ⟨_, rfl⟩
                  obtain ⟨l1, l2⟩ := encE_len hMM
                  have q1 := dec_more hMM []
                  rw [hX] at l1 l2 q1
                  rw [List.append_nil] at q1
                  obtain ⟨N, hN⟩ : ∃ N, X.length = N := ⟨_, rfl⟩
                  rw [hN] at l1 l2
                  have HM := hid hMM
                  have HX := hid hX
                  have HN := hid hN
                  have HD := hid (show decE X = ((0 : Int).toNat, (0 : Int).toNat, (0 : Int).toNat, ts, zs, 0) from q1)
                  have HLA := hid hlts
                  have HLR := hid hlzs
                  clear hMM hX hN q1 hlts hlzs
                  go_wp2_with (first
                    | (go_at_call 11; (with_reducible refine (encode_any 0 0 0 A k c ts Az j cz zs _ T1 Z1).mono ?_); rintro e w2 ⟨v2, rfl, hown2, hb2⟩; rw [HM.out]; simp only [if_true]; rw [HX.out] at hown2; obtain ⟨A2, c2, rfl, hr2, hc2⟩ := hown2.openN N HN.out; have hbx2 := blk_below hb2 hbxx; have T2 := T1.below hb2; have Z2 := Z1.below hb2; have hBB2 := below_then hBelow hb2; have kb0 := box_at hbx2 0 (.int .i64 0) rfl; have kb1 := box_at hbx2 1 (.int .i64 0) rfl; have kb2 := box_at hbx2 2 (.int .i64 0) rfl; have kb3 := box_at hbx2 3 (.slice A k c) rfl; have kb4 := box_at hbx2 4 (.slice Az j cz) rfl)
                    | (go_at_call 12; (with_reducible refine (refenc_any 0 0 0 A k c ts Az j cz zs _ T2 hcc Z2 hcz).mono ?_); rintro e w3 ⟨v3, rfl, hown3, hb3⟩; rw [HM.out]; simp only [if_true]; rw [HX.out] at hown3; have hbx3 := blk_below hb3 hbx2; have T3 := T2.below hb3; have Z3 := Z2.below hb3; have hBB3 := below_then hBB2 hb3; have hown4 := hown2.below hb3; have hr3 := hr2.below hb3)
                    | (go_at_call 15; (with_reducible refine (decode_any A2 N c2 X _ hr3 hc2 (by omega)).mono ?_); rintro e w4 ⟨v4, rfl, hC4, hb4⟩; obtain ⟨A5, c5, B5, d5, rfl, hO4, hI4⟩ := hC4.get HD.out (by omega) (by omega) (by omega) HLA.out HLR.out; rw [HD.out]; have hY := below_then hb4 (below_alloc' (Below.refl _ _) (.cells #[.int .i64 0, .int .i64 0, .int .i64 0, .slice A5 k c5, .slice B5 j d5] 30)); have hbx5 := blk_below hY hbx3; have T5 := T3.below hY; have Z5 := Z3.below hY; have kc0 := box_at hbx5 0 (.int .i64 0) rfl; have kc1 := box_at hbx5 1 (.int .i64 0) rfl; have kc2 := box_at hbx5 2 (.int .i64 0) rfl; have kc3 := box_at hbx5 3 (.slice A k c) rfl; have kc4 := box_at hbx5 4 (.slice Az j cz) rfl; have hO5 := hO4.below (below_alloc' (Below.refl _ _) (.cells #[.int .i64 0, .int .i64 0, .int .i64 0, .slice A5 k c5, .slice B5 j d5] 30)); have hI5 := hI4.below (below_alloc' (Below.refl _ _) (.cells #[.int .i64 0, .int .i64 0, .int .i64 0, .slice A5 k c5, .slice B5 j d5] 30)); have hcv1 := OB.conv (hown4.below hY); have hcv2 := OB.conv (hown3.below hY); have hBB5 := below_then hBB3 hY)
                    | (go_at_call 16; (with_reducible refine (sameedit_any 0 0 0 A5 c5 A c k ts B5 d5 Az cz j zs _ hO5 T5 hI5 Z5).mono ?_); rintro e w5 ⟨rfl, hb5⟩; have hBB6 := below_then hBB5 hb5)
                    | (go_at_call 9; (with_reducible refine (awake_any _).mono ?_); rintro e w6 ⟨rfl, hbz⟩))
                  go_ret
                  exact ⟨rfl, below_then hBB6 hbz⟩
                | false =>
                  have HM := hid hMM
                  have HX : Hid (encE 0 0 0 ts zs = []) := by unfold Hid encE; rw [hMM]; rfl
                  obtain ⟨e0, he0, hne0⟩ : ∃ e0, (decE []).2.2.2.2.2 = e0 ∧ e0 ≠ 0 := ⟨_, rfl, by decide +kernel⟩
                  have hz0 : ((e0 : Int) == 0) = false := by rw [beq_eq_false_iff_ne]; omega
                  have HE0 := hid he0
                  clear hMM he0 hlts hlzs
                  go_wp2_with (first
                    | (go_at_call 11; (with_reducible refine (encode_any 0 0 0 A k c ts Az j cz zs _ T1 Z1).mono ?_); rintro e w2 ⟨v2, rfl, hown2, hb2⟩; rw [HM.out]; simp only [Bool.false_eq_true, if_false]; rw [HX.out] at hown2; obtain ⟨A2, c2, rfl, hr2, hc2⟩ := hown2.openN 0 rfl; have hbx2 := blk_below hb2 hbxx; have T2 := T1.below hb2; have Z2 := Z1.below hb2; have hBB2 := below_then hBelow hb2; have kb0 := box_at hbx2 0 (.int .i64 0) rfl; have kb1 := box_at hbx2 1 (.int .i64 0) rfl; have kb2 := box_at hbx2 2 (.int .i64 0) rfl; have kb3 := box_at hbx2 3 (.slice A k c) rfl; have kb4 := box_at hbx2 4 (.slice Az j cz) rfl)
                    | (go_at_call 12; (with_reducible refine (refenc_any 0 0 0 A k c ts Az j cz zs _ T2 hcc Z2 hcz).mono ?_); rintro e w3 ⟨v3, rfl, hown3, hb3⟩; rw [HM.out]; simp only [Bool.false_eq_true, if_false]; rw [HX.out] at hown3; have hBB3 := below_then hBB2 hb3; have hown4 := hown2.below hb3; have hr3 := hr2.below hb3)
                    | (go_at_call 15; (with_reducible refine (decode_any A2 0 c2 [] _ hr3 hc2 (by omega)).mono ?_); rintro e w4 ⟨v4, rfl, hC4, hb4⟩; obtain ⟨p1, p2, p3, A6, n6, c6, B6, m6, d6, rfl⟩ := hC4.1; rw [HE0.out]; have hY := below_then hb4 (below_alloc' (Below.refl _ _) (.cells #[.int .i64 p1, .int .i64 p2, .int .i64 p3, .slice A6 n6 c6, .slice B6 m6 d6] 30)); have hcv1 := OB.conv (hown4.below hY); have hcv2 := OB.conv (hown3.below hY); have hBB5 := below_then hBB3 hY)
                    | (go_at_call 9; (with_reducible refine (awake_any _).mono ?_); rintro e w6 ⟨rfl, hbz⟩))
                  go_ret
                  exact ⟨rfl, below_then hBB5 hbz⟩
end Go.Proofs.Ythiolcccgiibhaa
