/- The document's Seen and Latest over rows of entries. -/
import Derived.Test.YtlfjbklagljdlaaDoorMmZ
namespace Go.Proofs.YtlfjbklagljdlaaDoor
open Go.RowKit
set_option linter.unusedVariables false
set_option linter.unusedSimpArgs false

/-- Of each key the newest up to a number; `last`: the key that was taken last. -/
def seenF (s : Int) : Option (List UInt8) → List EntR → List EntR
  | _, [] => []
  | last, x :: l => if eSeq x ≤ s ∧ last ≠ some (eKey x) then x :: seenF s (some (eKey x)) l else seenF s last l
def lastK (os : List EntR) : Option (List UInt8) := os.getLast?.map eKey
theorem lastK_snoc (os : List EntR) (x : EntR) : lastK (os ++ [x]) = some (eKey x) := by simp [lastK]
theorem seenF_yes {s : Int} {last : Option (List UInt8)} {es : List EntR} {k : Nat} (h : k < es.length) (h1 : eSeq (elt noEnt es k) ≤ s) (h2 : last ≠ some (eKey (elt noEnt es k))) : seenF s last (es.drop k) = elt noEnt es k :: seenF s (some (eKey (elt noEnt es k))) (es.drop (k + 1)) := by rw [drop_elt h, seenF, if_pos ⟨h1, h2⟩]
theorem seenF_no {s : Int} {last : Option (List UInt8)} {es : List EntR} {k : Nat} (h : k < es.length) (h1 : ¬ (eSeq (elt noEnt es k) ≤ s ∧ last ≠ some (eKey (elt noEnt es k)))) : seenF s last (es.drop k) = seenF s last (es.drop (k + 1)) := by rw [drop_elt h, seenF, if_neg h1]
set_option maxHeartbeats 32000000 in
set_option maxRecDepth 100000 in
theorem refseen_any (A : Option Addr) (n c : Nat) (es : List EntR) (s : Int) (w : World) (h : REnts w A n es) (hn : n ≤ 1000000) :
    Calls Tryd.prog 40 #[.slice A n c, .int .i64 s] w fun r w' => RowC w w' (seenF s none es) r := by
  have hl := h.1
  have H := hid h
  have HL := hid hl
  clear h hl
  go_enter Tryd.func40, Tryd.ntmps40
  go_wp2
  go_loopw [5, 11] (fun v i wr => ∃ (k : Nat) (os : List EntR), k ≤ n ∧ i = .int .i64 k ∧ RowJ w wr (seenF s none es) (seenF s (lastK os) (es.drop k)) v k os) (fun v i wr => n - (intOf i).toNat)
  case atStart => exact ⟨0, [], Nat.zero_le _, rfl, [], rfl, Nat.le_refl _, OV.nil _ _ _ _, RelV.nil, Below.refl _ _⟩
  case round =>
    obtain ⟨k, os, hk, rfl, hJ⟩ := hrel
    by_cases hlt : k < n
    · have hJ0 := hJ
      obtain ⟨V, hw1, hVl, hown, hrelv, hBr⟩ := hJ0
      obtain ⟨ad, rfl, hc1⟩ := H.out.at_ hlt
      obtain ⟨Ak, nk, ck, Av, nv, cv, a0, a1, a2, a3, a4, a5, a6, a7, a8⟩ := hc1
      have a0 := below_cell hBr a0
      have a1 := below_cell hBr a1
      have a2 := below_cell hBr a2
      have a3 := below_cell hBr a3
      have a4 := below_cell hBr a4
      have hkl : k < es.length := by rw [HL.out]; exact hlt
      have HY := hid (fun h1 h2 => seenF_yes (s := s) (last := lastK os) hkl h1 h2)
      have HNo := hid (fun h1 => seenF_no (s := s) (last := lastK os) hkl h1)
      generalize elt noEnt es k = x at *
      have HP : Hid (PER w [.slice Ak nk ck, .int .i64 (eSeq x), .bool (eGone x), .int .i64 (eTil x), .slice Av nv cv] x) := ⟨Ak, nk, ck, Av, nv, cv, rfl, a5, a6, a7, a8⟩
      have HJ := hid hJ
      have HV := hid hVl
      have HO := hid hown
      have HW1 := hid hw1
      have HR := hid hrelv
      obtain ⟨m, hm⟩ : ∃ m, V.length = m := ⟨_, rfl⟩
      have hmk : m ≤ k := by rw [← hm]; exact hVl
      obtain ⟨Ao, co, hve, _⟩ := hown.openN m hm
      subst hve
      have HVm := hid hm
      have hbn := heap_alloc_new wr (.cells #[.slice Ak nk ck, .int .i64 (eSeq x), .bool (eGone x), .int .i64 (eTil x), .slice Av nv cv] 28)
      have hbb : Below wr.heap.size wr (wr.alloc (.cells #[.slice Ak nk ck, .int .i64 (eSeq x), .bool (eGone x), .int .i64 (eTil x), .slice Av nv cv] 28)) := below_alloc' (Below.refl _ _) _
      have hBb := below_then hBr hbb
      have HX := hid (a5.below hBb)
      have q0 := box_at hbn 0 (.slice Ak nk ck) rfl
      have q1 := box_at hbn 1 (.int .i64 (eSeq x)) rfl
      have HTake : Hid (eSeq x ≤ s → lastK os ≠ some (eKey x) → ∀ (v4 : Value) (w4 : World), OV w4 w.heap.size 28 5 v4 (V ++ [[.slice Ak nk ck, .int .i64 (eSeq x), .bool (eGone x), .int .i64 (eTil x), .slice Av nv cv]]) → Below w.heap.size w w4 → RowJ w w4 (seenF s none es) (seenF s (lastK (os ++ [x])) (es.drop (k + 1))) v4 (k + 1) (os ++ [x])) := fun h1 h2 v4 w4 h3 h4 => by
        have hh := HW1.out
        rw [HY.out h1 h2] at hh
        rw [lastK_snoc]
        exact RowJ.take hh HV.out HR.out HP.out h3 h4
      have HSkip : Hid (¬ (eSeq x ≤ s ∧ lastK os ≠ some (eKey x)) → ∀ (w4 : World), Below wr.heap.size wr w4 → RowJ w w4 (seenF s none es) (seenF s (lastK os) (es.drop (k + 1))) (.slice Ao m co) (k + 1) os) := fun h1 w4 h3 => by
        have hh := HJ.out.skip h3
        rwa [HNo.out h1] at hh
      clear a5 a6 a7 a8 hJ hVl hw1 hm
      by_cases h0 : eSeq x ≤ s
      · have hd0 : decide (eSeq x ≤ s) = true := decide_eq_true h0
        rcases Nat.eq_zero_or_pos m with hm0 | hm0
        · have hb0 : ((m : Int) == 0) = true := by rw [beq_iff_eq]; omega
          have hlast : lastK os ≠ some (eKey x) := by
            have : os = [] := List.eq_nil_of_length_eq_zero (by rw [← hrelv.1, HVm.out]; exact hm0)
            rw [this]
            simp [lastK]
          have HT := hid (HTake.out h0 hlast)
          clear hlast hm0 hrelv hown h0
          go_wp2
          go_quiet (fail)
          go_wp2_with (at_builtin; go_loud (refine wpV_append1 22 28 _ 5 72 Tryd.underlying22 eninfo rfl (by omega) w _ w.heap.size rfl (.tmp 37) (.tmp 39) rfl (.slice Ao m co) V rfl (HO.out.below (below_drewN hbb _)) #[.slice Ak nk ck, .int .i64 (eSeq x), .bool (eGone x), .int .i64 (eTil x), .slice Av nv cv] rfl (ones5 rfl rfl rfl rfl rfl) 1 _ (by simp) rfl (by have := HV.out; simp only [maxLen]; omega) (by have := HV.out; omega) (below_drewN hBb _) (below_drewN hBb _).size ?_); intro v4 w4 hown4 hB4 hg4 _)
          go_roundw
          case rel => exact ⟨k + 1, os ++ [x], by omega, by go_num, HT.out _ _ hown4 hB4⟩
          case measure => simp [intOf]; omega
        · obtain ⟨j, rfl⟩ : ∃ j, m = j + 1 := ⟨m - 1, by omega⟩
          have hb0 : ((j : Int) + 1 == 0) = false := by rw [beq_eq_false_iff_ne]; omega
          obtain ⟨g, d, hve, _, _, _⟩ := hown.form (by rw [HVm.out]; omega)
          injection hve with e1 e2 e3
          subst e1
          have hown' : OV wr w.heap.size 28 5 (.slice (some ⟨g, 0, none⟩) V.length co) V := by rw [HVm.out]; exact hown
          obtain ⟨Bk, mk, dk, Bv, mv, dv, hy, b5, _⟩ := hrelv.2 j (by rw [HVm.out]; omega)
          have hc0 := hown'.cell (j := j) (i := 0) (by rw [HVm.out]; omega) (by omega)
          rw [hy] at hc0
          have hc0 := below_cell hbb hc0
          simp only [List.getElem?_cons_zero, Nat.add_zero] at hc0
          have hlk : lastK os = some (eKey (elt noEnt os j)) := by
            have hol : os.length = j + 1 := by rw [← hrelv.1, HVm.out]
            unfold lastK
            rw [List.getLast?_eq_getElem?, hol, Nat.add_sub_cancel, List.getElem?_eq_getElem (by omega)]
            rw [elt_get noEnt (by omega)]
            rfl
          rw [hlk] at HTake HSkip
          generalize elt noEnt os j = y at *
          have HLk := hid hlk
          have HYk := hid (b5.below hBb)
          obtain ⟨C, hC⟩ : ∃ C, cmpB (eKey y) (eKey x) = C := ⟨_, rfl⟩
          have hz := cmpB_zero (eKey y) (eKey x)
          rw [hC] at hz
          have HC := hid hC
          have hjs : IntKind.i64.wrap (j : Int) = (j : Int) := by rw [IntKind.wrap_i64]; omega
          have hjn : j + 1 ≤ n := by omega
          have hjb : (j : Int) < (j : Int) + 1 := by omega
          clear hm0 hy b5 hC hlk hrelv hown e2 e3 hown'
          by_cases hc : C = 0
          · have HS := hid (HSkip.out (fun hh => hh.2 (by rw [hz.1 hc])))
            have hb1 : (C != 0) = false := by simp [hc]
            clear hz hc h0 HTake HSkip
            go_wp2
            go_quiet (first | (go_at_call 35; refine Calls.quiet_of (v := .int .i64 C) ((refcompare_quiet Bk mk dk (eKey y) Ak nk ck (eKey x) _ (HYk.out.drewN _) (HX.out.drewN _)).mono ?_); rintro r w1 ⟨rfl, m, hm⟩; exact ⟨by rw [HC.out], m, hm⟩))
            go_wp2
            go_roundw
            case rel => exact ⟨k + 1, os, by omega, by go_num, by rw [HLk.out]; exact HS.out _ (below_drewN hbb _)⟩
            case measure => simp [intOf]; omega
          · have hT := HTake.out h0 (by intro hh; exact hc (hz.2 (Option.some.inj hh)))
            have HT := hid hT
            have hb1 : (C != 0) = true := by simpa using hc
            clear hz hc h0 HTake HSkip hT
            go_wp2
            go_quiet (first | (go_at_call 35; refine Calls.quiet_of (v := .int .i64 C) ((refcompare_quiet Bk mk dk (eKey y) Ak nk ck (eKey x) _ (HYk.out.drewN _) (HX.out.drewN _)).mono ?_); rintro r w1 ⟨rfl, m, hm⟩; exact ⟨by rw [HC.out], m, hm⟩))
            go_wp2_with (at_builtin; go_loud (refine wpV_append1 22 28 _ 5 72 Tryd.underlying22 eninfo rfl (by omega) w _ w.heap.size rfl (.tmp 37) (.tmp 39) rfl (.slice (some ⟨g, 0, none⟩) (j + 1) co) V rfl (HO.out.below (below_drewN hbb _)) #[.slice Ak nk ck, .int .i64 (eSeq x), .bool (eGone x), .int .i64 (eTil x), .slice Av nv cv] rfl (ones5 rfl rfl rfl rfl rfl) 1 _ (by simp) rfl (by have := HV.out; simp only [maxLen]; omega) (by have := HV.out; omega) (below_drewN hBb _) (below_drewN hBb _).size ?_); intro v4 w4 hown4 hB4 hg4 _)
            go_roundw
            case rel => exact ⟨k + 1, os ++ [x], by omega, by go_num, HT.out _ _ hown4 hB4⟩
            case measure => simp [intOf]; omega
      · have hd0 : decide (eSeq x ≤ s) = false := decide_eq_false h0
        have HS := hid (HSkip.out (fun hh => h0 hh.1))
        clear h0 hrelv hown
        go_wp2
        go_quiet (fail)
        go_wp2
        go_roundw
        case rel => exact ⟨k + 1, os, by omega, by go_num, HS.out _ (below_drewN hbb _)⟩
        case measure => simp [intOf]; omega
    · obtain rfl : k = n := by omega
      have HJ := hid hJ
      clear hJ
      go_wp2
      go_ret
      have h := HJ.out
      rw [List.drop_eq_nil_of_le (by rw [HL.out]; exact Nat.le_refl _)] at h
      exact RowJ.done h
theorem listR_len (frm tk : List UInt8) (es : List EntR) : (listR frm tk es).length ≤ es.length := List.length_filter_le _ _
theorem seenF_len (s : Int) (es : List EntR) : ∀ last, (seenF s last es).length ≤ es.length := by
  induction es with
  | nil => intro last; simp [seenF]
  | cons x l ih =>
    intro last
    rw [seenF]
    split
    · have := ih (some (eKey x)); simp; exact this
    · have := ih last; simp; omega
def latR (s : Int) (frm tk : List UInt8) (es : List EntR) : List EntR := (seenF s none (listR frm tk es)).filter (fun x => !eGone x)
set_option maxHeartbeats 32000000 in
set_option maxRecDepth 100000 in
theorem reflatest_any (A : Option Addr) (n c : Nat) (es : List EntR) (Ar : Option Addr) (nr cr : Nat) (frm : List UInt8) (At : Option Addr) (nt ct : Nat) (tk : List UInt8) (s : Int) (w : World) (h : REnts w A n es) (hf : RB w Ar nr frm) (ht : RB w At nt tk) (hn : n ≤ 1000000) :
    Calls Tryd.prog 28 #[.slice A n c, .slice Ar nr cr, .slice At nt ct, .int .i64 s] w fun r w' => RowC w w' (latR s frm tk es) r := by
  have HL := hid (reflist_any A n c es Ar nr cr frm At nt ct tk w h hf ht hn)
  have hlen : (listR frm tk es).length ≤ n := by have := listR_len frm tk es; rw [h.1] at this; exact this
  have hlen2 := seenF_len s (listR frm tk es) none
  have HE : Hid (latR s frm tk es = (seenF s none (listR frm tk es)).filter (fun x => !eGone x)) := rfl
  clear h hf ht
  generalize listR frm tk es = L at *
  generalize latR s frm tk es = R at *
  obtain ⟨S, hS⟩ : ∃ S, seenF s none L = S := ⟨_, rfl⟩
  rw [hS] at HE hlen2
  obtain ⟨m, hm⟩ : ∃ m, S.length = m := ⟨_, rfl⟩
  rw [hm] at hlen2
  have HM := hid hm
  have HS := hid hS
  obtain ⟨ll, hll⟩ : ∃ ll, L.length = ll := ⟨_, rfl⟩
  rw [hll] at hlen2 hlen
  have HLL := hid hll
  clear hm hS hll
  go_enter Tryd.func28, Tryd.ntmps28
  go_wp2_with (first
    | (go_at_call 26; (with_reducible refine HL.out.mono ?_); rintro r w1 ⟨v1, V1, rfl, ho1, hr1, hb1⟩; obtain ⟨A1, c1, hv1, _, hre1⟩ := REnts_of ho1 hr1 (by rw [HLL.out]; omega); rw [HLL.out] at hv1 hre1; subst hv1)
    | (go_at_call 40; (with_reducible refine (refseen_any A1 ll c1 L s w1 hre1 (by omega)).mono ?_); rintro r w2 ⟨v2, V2, rfl, ho2, hr2, hb2⟩; obtain ⟨A2, c2, hv2, _, hre2⟩ := REnts_of ho2 hr2 (by rw [HS.out, HM.out]; omega); rw [HS.out, HM.out] at hv2; rw [HS.out, HM.out] at hre2; subst hv2))
  have hb12 := below_then hb1 hb2
  have H := hid hre2
  clear hre2 hre1 ho1 hr1 ho2 hr2 HL hb1 hb2
  go_loopw [9, 19] (fun v i wr => ∃ (k : Nat) (os : List EntR), k ≤ m ∧ i = .int .i64 k ∧ RowJ w2 wr (S.filter (fun x => !eGone x)) ((S.drop k).filter (fun x => !eGone x)) v k os) (fun v i wr => m - (intOf i).toNat)
  case atStart => exact ⟨0, [], Nat.zero_le _, rfl, [], rfl, Nat.le_refl _, OV.nil _ _ _ _, RelV.nil, Below.refl _ _⟩
  case round =>
    obtain ⟨k, os, hk, rfl, hJ⟩ := hrel
    by_cases hlt : k < m
    · have hJ0 := hJ
      obtain ⟨V, hw1, hVl, hown, hrelv, hBr⟩ := hJ0
      obtain ⟨ad, rfl, hc1⟩ := H.out.at_ hlt
      obtain ⟨Ak, nk, ck, Av, nv, cv, a0, a1, a2, a3, a4, a5, a6, a7, a8⟩ := hc1
      have a0 := below_cell hBr a0
      have a1 := below_cell hBr a1
      have a2 := below_cell hBr a2
      have a3 := below_cell hBr a3
      have a4 := below_cell hBr a4
      have hkl : k < S.length := by rw [HM.out]; exact hlt
      have HY := hid (filt_yes (p := fun x => !eGone x) hkl)
      have HNo := hid (filt_no (p := fun x => !eGone x) hkl)
      generalize elt noEnt S k = x at *
      have HP : Hid (PER w2 [.slice Ak nk ck, .int .i64 (eSeq x), .bool (eGone x), .int .i64 (eTil x), .slice Av nv cv] x) := ⟨Ak, nk, ck, Av, nv, cv, rfl, a5, a6, a7, a8⟩
      have HJ := hid hJ
      have HV := hid hVl
      have HO := hid hown
      have HW1 := hid hw1
      have HR := hid hrelv
      clear a5 a6 a7 a8 hJ hVl hw1 hrelv hown
      have hbb : Below wr.heap.size wr (wr.alloc (.cells #[.slice Ak nk ck, .int .i64 (eSeq x), .bool (eGone x), .int .i64 (eTil x), .slice Av nv cv] 28)) := below_alloc' (Below.refl _ _) _
      have hBb := below_then hBr hbb
      cases hgn : eGone x
      · have HYes := hid (HY.out (by simp [hgn]))
        have hbb2 := hbb
        have hBb2 := hBb
        have HP2 := HP
        rw [hgn] at a2 hbb2 hBb2 HP2
        clear hbb hBb HY HNo HP
        go_wp2_with (at_builtin; go_loud (refine wpV_append1 22 28 _ 5 72 Tryd.underlying22 eninfo rfl (by omega) w2 _ w2.heap.size rfl (.tmp 26) (.tmp 28) rfl u9 V rfl (HO.out.below hbb2) #[.slice Ak nk ck, .int .i64 (eSeq x), .bool false, .int .i64 (eTil x), .slice Av nv cv] rfl (ones5 rfl rfl rfl rfl rfl) 1 _ (by simp) rfl (by have := HV.out; simp only [maxLen]; omega) (by have := HV.out; omega) hBb2 hBb2.size ?_); intro v4 w4 hown4 hB4 hg4 _)
        go_roundw
        case rel => exact ⟨k + 1, os ++ [x], by omega, by go_num, RowJ.take (by rw [HW1.out, HYes.out]) HV.out HR.out HP2.out hown4 hB4⟩
        case measure => simp [intOf]; omega
      · have HNO := hid (HNo.out (by simp [hgn]))
        rw [hgn] at a2 hbb hBb
        clear HY HNo HP
        go_wp2
        go_roundw
        case rel => exact ⟨k + 1, os, by omega, by go_num, by have h := HJ.out.skip hbb; rwa [HNO.out] at h⟩
        case measure => simp [intOf]; omega
    · obtain rfl : k = m := by omega
      have HJ := hid hJ
      clear hJ
      go_wp2
      go_ret
      have h := HJ.out
      rw [List.drop_eq_nil_of_le (by rw [HM.out]; exact Nat.le_refl _)] at h
      obtain ⟨v, V, e, h1, h2, h3⟩ := RowJ.done h
      rw [HE.out]
      exact ⟨v, V, e, ⟨own_mono h1.1 hb12.size, h1.2⟩, h2, below_then hb12 h3⟩
end Go.Proofs.YtlfjbklagljdlaaDoor
