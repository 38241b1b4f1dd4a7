/- Layer 16's laws: MergeTwice. -/
import Derived.Test.YtnjhiiakpndnnaaMgZ
import Derived.BigQuiet
namespace Go.Proofs.Ytnjhiiakpndnnaa
open Go.RowKit
set_option linter.unusedVariables false
set_option linter.unusedSimpArgs false

theorem bstr_ne' {a b : List UInt8} (h : a ≠ b) : ((bstr a).toList == (bstr b).toList) = false := by
  rw [beq_eq_false_iff_ne]
  intro e
  exact h (by simpa [bstr] using e)
theorem AllS.take {n : Nat} {R : List (List EntR)} (h : AllS n R) {k : Nat} (hk : k ≤ n) : AllS k (R.take k) := fun r hr => by rw [er_take _ _ _ hr]; exact h r (by omega)
theorem AllS.drop {n : Nat} {R : List (List EntR)} (h : AllS n R) (k : Nat) : AllS (n - k) (R.drop k) := fun r hr => by rw [er_drop]; exact h (k + r) (by omega)
theorem twice_take {n : Nat} {R : List (List EntR)} (h : AllS n R) (hf : totR R ≤ 40000) (hs : SmallR R) {k : Nat} (hk : k ≤ n) : AllS k (R.take k) ∧ totR (R.take k) ≤ 40000 ∧ SmallR (R.take k) :=
  ⟨h.take hk, by have := tot_parts R k; omega, (small_take hs k).1⟩
theorem twice_drop {n : Nat} {R : List (List EntR)} (h : AllS n R) (hf : totR R ≤ 40000) (hs : SmallR R) (k : Nat) : AllS (n - k) (R.drop k) ∧ totR (R.drop k) ≤ 40000 ∧ SmallR (R.drop k) :=
  ⟨h.drop k, by have := tot_parts R k; omega, (small_take hs k).2⟩
theorem cut_any (z : Int) (n : Nat) (hn : n ≤ 20) : ∃ K : Nat, K ≤ n ∧ wrap64 ((IntKind.u64.wrap z).tmod ((n : Int) + 1)) = (K : Int) := by
  have h0 : 0 ≤ IntKind.u64.wrap z := by
    rw [IntKind.wrap_u64]
    omega
  generalize IntKind.u64.wrap z = y at *
  rw [Int.tmod_eq_emod_of_nonneg h0]
  have h1 := Int.emod_nonneg y (show ((n : Int) + 1) ≠ 0 by omega)
  have h2 := Int.emod_lt_of_pos y (show (0 : Int) < (n : Int) + 1 by omega)
  refine ⟨(y % ((n : Int) + 1)).toNat, by omega, ?_⟩
  unfold wrap64
  omega
set_option maxHeartbeats 64000000 in
set_option maxRecDepth 200000 in
theorem MergeTwice_walk (A : Option Addr) (n c : Nat) (ess : List (List EntR)) (z : Int) (w : World) (h : REnss w A n ess) (hc : n ≤ c) (hz0 : (Lit.int .i64 z).wf = true) :
    Calls Try.prog 5 #[.slice A n c, .int .i64 z] w fun e w' => e = .returned (.bool true) ∧ Below w.heap.size w w' := by
  have hmax := h.2.1
  have H := hid h
  clear h hz0
  by_cases h20 : 20 < n
  · have hd20 : decide ((20 : Int) < (n : Int)) = true := decide_eq_true (by omega)
    go_enter Try.func5, Try.ntmps5
    go_wp2_with (first
      | (go_at_call 9; (with_reducible refine (light_any A n c ess _ H.out).mono ?_); rintro r w1 ⟨b, rfl, hlt, hb1⟩; clear hlt; cases b)
      | (go_at_call 10; (with_reducible refine (awake_any _).mono ?_); rintro r w9 ⟨rfl, hb9⟩))
    · go_ret
      exact ⟨rfl, below_then hb1 hb9⟩
    · go_ret
      exact ⟨rfl, below_then hb1 hb9⟩
  · have hd20 : decide ((20 : Int) < (n : Int)) = false := decide_eq_false (by omega)
    obtain ⟨K, hK, hE⟩ := cut_any z n (by omega)
    go_enter Try.func5, Try.ntmps5
    go_wp2_with (first
      | (go_at_call 9; (with_reducible refine (light_any A n c ess _ H.out).mono ?_); rintro r w1 ⟨b, rfl, hlt, hb1⟩; have HLt := hid hlt; clear hlt; cases b)
      | (go_at_call 10; (with_reducible refine (awake_any _).mono ?_); rintro r w9 ⟨rfl, hb9⟩)
      | (go_at_call 11; (with_reducible refine (sorted_fine A n c ess _ (H.out.below hb1) (HLt.out (by first | rfl | trivial))).mono ?_); rintro r w2 ⟨A2, c2, R2, rfl, hc2, hr2, hs2, hm2, ht2, hb2⟩; have HR2 := hid hr2; have HS2 := hid (⟨hs2, hm2, ht2⟩ : _ ∧ _ ∧ _); clear hr2 hs2 hm2 ht2; have hB2 := below_then hb1 hb2; have hch := cutR_hi (A := A2) hc2 hK (K : Int) rfl; obtain ⟨A6, c6, hcl, hrl, hc6⟩ := cutR_lo (A := A2) hc2 hK (K : Int) rfl; have HRl := hid (hrl _ _ HR2.out); clear hrl; have HTk := hid (twice_take HS2.out.1 HS2.out.2.2 HS2.out.2.1 hK); have HTl := hid (twice_drop HS2.out.1 HS2.out.2.2 HS2.out.2.1 K); have HAl : Hid (AllS R2.length R2) := hid (by rw [HR2.out.1]; exact HS2.out.1))
      | (go_at_call 12; (with_reducible refine (merge_fine A2 n c2 R2 _ HR2.out HS2.out.1 (by omega) HS2.out.2.2 HS2.out.2.1).mono ?_); rintro r w3 ⟨A3, c3, o3, rfl, hm3, hc3, hr3, hb3⟩; have HM3 := hid hm3; have HR3 := hid hr3; have ho3 := hr3.2.1; clear hm3 hr3; have HRk := hid ((HR2.out.below hb3).take hK))
      | (go_at_call 12; (with_reducible refine (merge_fine A2 K c2 (R2.take K) _ HRk.out HTk.out.1 (by omega) HTk.out.2.1 HTk.out.2.2).mono ?_); rintro r w4 ⟨A4, c4, o4, rfl, hm4, hc4, hr4, hb4⟩; have HM4 := hid hm4; have HR4 := hid hr4; clear hm4 hr4; have hB34 := below_then hb3 hb4; have HRl2 := hid (HRl.out.below hB34))
      | (go_at_call 12; (with_reducible refine (merge_fine A6 (n - K) c6 (R2.drop K) _ HRl2.out HTl.out.1 (by omega) HTl.out.2.1 HTl.out.2.2).mono ?_); rintro r w5 ⟨A5, c5, o5, rfl, hm5, hc5, hr5, hb5⟩; have HM5 := hid hm5; have HR5 := hid hr5; clear hm5 hr5; have hB35 := below_then hB34 hb5)
      | (go_at_call 12; (refine (merge_parts (R := R2) (o := o3) (a := o4) (b := o5) (k := K) (some ⟨w5.heap.size, 0, none⟩) 3 _ (renss3 w5 A4 A5 o4.length o5.length c4 c5 w5.heap.size rfl o4 o5 (HR4.out.below hb5) HR5.out hc4 hc5) HAl.out HS2.out.2.1 HS2.out.2.2 HM3.out HM4.out HM5.out).mono ?_); rintro r w6 ⟨x6, e6, rfl, hst6, hb6⟩; have HSt := hid hst6; clear hst6; have hb56 : Below w5.heap.size w5 w6 := below_then (below_alloc' (Below.refl _ _) _) hb6; have hB36 := below_then hB35 hb56; have hB6 := below_then hB2 hB36; have HO := hid (HR3.out.below (below_then (below_then hb4 hb5) hb56)); clear hch hcl))
    · go_ret
      exact ⟨rfl, below_then hb1 hb9⟩
    · go_loopw [14] (fun i wr => ∃ k : Nat, 1 ≤ k ∧ i = .int .i64 k ∧ (∀ j, 1 ≤ j → j < k → j < o3.length → ¬ sameE (elt noEnt o3 (j - 1)) (elt noEnt o3 j)) ∧ Below w6.heap.size w6 wr) (fun i wr => o3.length - (intOf i).toNat)
      case atStart => exact ⟨1, by omega, rfl, fun j h1 h2 => by omega, Below.refl _ _⟩
      case round =>
        obtain ⟨k, hk, rfl, hns, hBr⟩ := hrel
        have HNs := hid hns
        clear hns
        have hBw := below_then hB6 hBr
        by_cases hlt : k < o3.length
        · obtain ⟨ad, rfl, hq1⟩ := (HO.out.below hBr).at_ (show k - 1 < o3.length by omega)
          obtain ⟨ad2, hae, hq2⟩ := (HO.out.below hBr).at_ hlt
          obtain rfl := Option.some.inj hae
          obtain ⟨j, hj⟩ : ∃ j, k - 1 = j := ⟨_, rfl⟩
          have hkm : (k : Int) - 1 = (j : Int) := by omega
          have hws : IntKind.i64.wrap (j : Int) = (j : Int) := by rw [IntKind.wrap_i64]; omega
          have hjn : j < o3.length := by omega
          have HNk : Hid (¬ sameE (elt noEnt o3 (k - 1)) (elt noEnt o3 k) → ∀ j, 1 ≤ j → j < k + 1 → j < o3.length → ¬ sameE (elt noEnt o3 (j - 1)) (elt noEnt o3 j)) := by
            intro h3 i h1 h2 h4
            rcases Nat.lt_or_ge i k with h5 | h5
            · exact HNs.out i h1 h5 h4
            · obtain rfl : i = k := by omega
              exact h3
          rw [hj] at hq1 HNk
          obtain ⟨Ak, nk, ck, Av, nv, cv, a0, a1, a2, a3, a4, a5, _, _, _⟩ := hq1
          obtain ⟨Bk, mk, dk, Bv, mv, dv, b0, b1, b2, b3, b4, b5, _, _, _⟩ := hq2
          generalize elt noEnt o3 j = x at *
          generalize elt noEnt o3 k = y at *
          have q1 := fun m => RB.conv (a5.drewN m) ck
          have q2 := fun m => RB.conv (b5.drewN m) dk
          clear hae hj a5 b5
          by_cases hkey : eKey x = eKey y
          · rw [hkey] at q1
            by_cases hseq : eSeq x = eSeq y
            · rw [hseq] at a1
              clear hkey hseq
              go_wp2
              go_quiet (fail)
              go_wp2_with (go_at_call 10; (with_reducible refine (awake_any _).mono ?_); rintro r w9 ⟨rfl, hb9⟩)
              go_ret
              exact ⟨rfl, below_then (below_drewN hBw _) hb9⟩
            · have hd : (eSeq x == eSeq y) = false := by simpa using hseq
              have HN := hid (HNk.out fun h => hseq h.2)
              clear hkey hseq
              go_wp2
              go_quiet (fail)
              go_wp2
              go_roundw
              case rel => exact ⟨k + 1, by omega, by go_num, HN.out, below_drewN hBr _⟩
              case measure => simp [intOf]; omega
          · have hd := bstr_ne' hkey
            have HN := hid (HNk.out fun h => hkey h.1)
            clear hkey
            go_wp2
            go_quiet (fail)
            go_wp2
            go_roundw
            case rel => exact ⟨k + 1, by omega, by go_num, HN.out, below_drewN hBr _⟩
            case measure => simp [intOf]; omega
        · have HS : Hid (Srt o3) := hid (WSrt.strict (MRel.sorted HM3.out HAl.out) fun j h1 h2 => HNs.out j h1 (by omega) h2)
          obtain ⟨A7, c7, rfl, rfl, hr7⟩ := HSt.out HS.out
          have HR7 := hid (hr7.below hBr)
          clear hr7
          go_wp2_with (first
            | (go_at_call 14; (with_reducible refine (sameentries_any A7 c7 A3 c3 _ _ _ HR7.out (HO.out.below hBr)).mono ?_); rintro r w8 ⟨rfl, hb8⟩)
            | (go_at_call 10; (with_reducible refine (awake_any _).mono ?_); rintro r w9 ⟨rfl, hb9⟩))
          go_ret
          exact ⟨rfl, below_then hBw (below_then hb8 hb9)⟩
end Go.Proofs.Ytnjhiiakpndnnaa
