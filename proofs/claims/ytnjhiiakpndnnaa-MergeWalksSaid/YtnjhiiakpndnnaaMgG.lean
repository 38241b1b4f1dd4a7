/- Layer 16: Merge: the walk. -/
import Derived.Test.YtnjhiiakpndnnaaMgG1
namespace Go.Proofs.Ytnjhiiakpndnnaa
open Go.RowKit
set_option linter.unusedVariables false
set_option linter.unusedSimpArgs false

set_option maxHeartbeats 64000000 in
set_option maxRecDepth 200000 in
theorem merge_any (A : Option Addr) (n c : Nat) (ess : List (List EntR)) (w : World) (h : REnss w A n ess) (hs : ∀ r, r < n → Srt (er ess r)) (hn : n ≤ 64) (hf : totR ess ≤ 40000) (hsm : SmallR ess) :
    Calls Try.prog 12 #[.slice A n c] w fun r w' => MergeC w w' ess r := by
  have hl := h.1
  have H := hid h
  have HS := hid (fun r hr => srtB_true (hs r hr))
  have HL := hid hl
  have hf := hid hf
  have HTk : Hid (∀ k, k ≤ n → totR (ess.take k) ≤ 40000) := fun k hk => by
    have := totR_app (ess.take k) (ess.drop k)
    rw [List.take_append_drop] at this
    have := hf.out
    omega
  have HTs : Hid (∀ k, k < n → totR (ess.take (k + 1)) = totR (ess.take k) + (er ess k).length) := fun k hk => tot_take (by rw [hl]; exact hk)
  clear h hs hl
  go_enter Try.func12, Try.ntmps12
  go_wp2
  refine wp_scope_ghost 0 (MJ w A n c ess) rfl ?_ ?_
  · rintro m a' w' ⟨bh, vout, R, Hh, out, u1, u2, u3, u4, u5, u6, u8, u9, u11, u12, u13, u14, u15, u16, u17, u18, u19, u20, u21, u22, u23, u24, u25, u26, u27, u28, u29, u30, u31, u32, u33, u34, u35, u36, u37, u38, u39, u40, u41, u42, u43, u44, u45, u46, u47, u48, u49, u50, u51, u52, u53, u54, u55, u56, u57, u58, u59, u60, u61, u62, u63, u64, u65, u66, u67, u68, u69, u70, u71, u72, u73, u74, u75, u76, u77, u78, u79, u80, u81, u82, u83, u84, u85, u86, u87, u88, u89, u90, u91, u92, u93, u94, u95, u96, u97, u98, rfl, hM⟩
    have HM := hid hM
    have hbh := hM.base_
    have hBw := hM.bel
    rcases hM.hp with ⟨hH0, A0, c0, hbx⟩ | ⟨g, n2, c2, L, h0, hn2, hHJ, hHF⟩
    · have hb0 := box_at hbx 0 (.slice A0 0 c0) rfl
      have HD := hid (MRel.done hM.rep hH0)
      have HT : Hid (totR R = 0) := by
        unfold Hid
        have hd := HD.out
        have : ∀ (S : List (List EntR)), (∀ r, r < S.length → er S r = []) → totR S = 0 := by
          intro S
          induction S with
          | nil => intro _; rfl
          | cons x S ih =>
            intro h
            have h1 := h 0 (by simp)
            have h2 := ih fun r hr => h (r + 1) (by simpa using hr)
            have e : x = [] := h1
            simp [totR, h2, e]
        exact this R hd
      clear hM hbx
      go_wp2
      try simp only [Exit.jump]
      go_ret2
      exact ⟨vout, out, rfl, by have := HM.out.rel [] HD.out; simpa using this, by have := HM.out.tot; have := HT.out; omega, HM.out.out_, HM.out.bel⟩
    · have hlen := hHJ.len
      obtain ⟨h, T, rfl⟩ : ∃ h T, Hh = h :: T := by
        cases Hh with
        | nil => simp at hlen; omega
        | cons h T => exact ⟨h, T, rfl⟩
      have hTl : T.length = n2 - 1 := by simp at hlen; omega
      obtain ⟨Ah, mh, dh, g0, g1, hrh, hmd, hmp, hLh⟩ := hHJ.cells h0
      have e0 : eh (h :: T) 0 = h := rfl
      rw [e0] at g1 hrh hLh
      rw [Nat.zero_mul] at g0
      have g1 : w'.cell? ⟨g, 1, none⟩ = some (.int .i64 (hRow h : Int)) := by simpa using g1
      obtain ⟨ah, hae, hc1⟩ := hrh.at_ hmp
      subst hae
      have hc1 := hc1.below hBw
      have z0 : ah.add (0 * 5) = ah := by unfold Addr.add; simp
      rw [z0] at hc1
      have hex : elt noEnt (hL h) 0 = hE h := rfl
      rw [hex] at hc1
      obtain ⟨Ak, nk, ck, Av, nv, cv, a0, a1, a2, a3, a4, a5, a6, a7, a8⟩ := hc1
      have hb0 := box_at hHJ.box 0 (.slice (some ⟨g, 0, none⟩) n2 c2) rfl
      obtain ⟨curg, hcurg⟩ := hHJ.ov.blk
      obtain ⟨V, hov, hrel⟩ := hM.out_
      have hVl : V.length ≤ 40000 := by
        have h1 := hM.tot
        have h2 := hM.few
        have h3 := hrel.1
        omega
      have HOv := hid hov
      have HRel := hid hrel
      have HHJ := hid hHJ
      have HHF := hid hHF
      have HCur := hid hcurg
      have HRh := hid hrh
      have HKV := hid (⟨a5, a6⟩ : _ ∧ _)
      have hkl := a5.1
      have hvl := a6.1
      have HLh := hid hLh
      obtain ⟨m1, rfl⟩ : ∃ m1, mh = m1 + 1 := ⟨mh - 1, by omega⟩
      have hsm := hM.small
      obtain ⟨hr1, hr2, hr3⟩ := hM.rep.is h (by simp)
      have hE1 : hE h ∈ er R (hRow h) := by
        rw [← hr2]
        cases hq : hL h with
        | nil => exact absurd hq hr3
        | cons a l => show elt noEnt (hL h) 0 ∈ _; rw [hq]; simp [elt]
      obtain ⟨hs1, hs2⟩ := hsm (hRow h) hr1 (hE h) hE1
      have HHR := hid hHJ.rel
      have HX := hid (⟨hlen, hTl⟩ : _ ∧ _)
      have HBel := hid hBw
      have HStore : Hid (∀ W3, HJ w W3 w.heap.size bh g n2 c2 L (h :: T) → ∀ A2 d2, REnts w A2 (m1) (hL h).tail → m1 ≤ d2 → StA w (W3.setCell ⟨g, 0, none⟩ (.slice A2 (m1) d2)) bh g n2 c2 L h (m1) A2 d2) := by
        intro W3 hJ3 A2 d2 hr hd
        obtain ⟨x1, x2, x3⟩ := hJ3.rec0 (Nat.le_refl _) (.slice A2 (m1) d2) rfl
        exact ⟨x1, x2, x3, hr, hd⟩
      have HTail : Hid (REnts w (if dh = 1 then some ah else (some ah).map (·.add (1 * 5))) m1 (hL h).tail) := hid (hrh.drop1 hmp hmd)
      obtain ⟨A2, d2, hcut2, hd2⟩ : ∃ A2 d2, (∀ w, (Instr.slice 27 (.slice (some ah) (m1 + 1) dh) (some (.int .i64 1)) none none).run Try.prog w = .ok (.slice A2 (m1) d2) w) ∧ m1 ≤ d2 ∧ A2 = (if dh = 1 then some ah else (some ah).map (·.add (1 * 5))) := by
        refine ⟨if dh = 1 then some ah else (some ah).map (·.add (1 * 5)), dh - 1, fun w => ?_, by omega, rfl⟩
        rw [run_slice_l (P := Try.prog) w 27 (some ah) (m1 + 1) dh elemE .i64 1 (by omega) (by omega), sizeE]
        simp [sliced, Result.andThen]
      have HTail2 : Hid (REnts w A2 (m1) (hL h).tail) := by unfold Hid; rw [hd2.2]; exact HTail.out
      have HD2 := hid hd2.1
      clear hd2 HTail hM hsm hHJ hHF hcurg hrel hlen hTl hov hrh hLh hBw hr1 hr2 hr3 hE1 hex e0 z0
      go_wp2_with (first
        | (go_at_call 27; (with_reducible refine (own_any Ak nk ck (eKey (hE h)) (eSeq (hE h)) (eGone (hE h)) (eTil (hE h)) Av nv cv (eVal (hE h)) _ HKV.out.1 HKV.out.2 (by omega) (by omega)).mono ?_); rintro r w4 ⟨kv, vv, rfl, ok1, ov1, hb4⟩; have hB4 := below_then HBel.out hb4; have hown4 := HOv.out.below hb4; obtain ⟨A1, c1, hkv, _, _⟩ := OB.open_ ok1; obtain ⟨A3, c3, hvv, _, _⟩ := OB.open_ ov1; rw [hkl] at hkv; rw [hvl] at hvv; subst hkv hvv)
        | (at_builtin; refine wpV_append1 27 35 _ 5 72 Try.underlying27 eninfo rfl (by omega) w w4 w.heap.size rfl (.tmp 58) (.tmp 66) rfl vout V rfl hown4 #[.slice A1 nk c1, .int .i64 (eSeq (hE h)), .bool (eGone (hE h)), .int .i64 (eTil (hE h)), .slice A3 nv c3] rfl (ones5 rfl rfl rfl rfl rfl) 1 _ rfl rfl (by simp only [maxLen]; omega) (by omega) hB4 hB4.size ?_; intro v3 w3 hown3 hB3 hg3 _; have hJ3 := (HHJ.out.below hb4).other hg3 (OV.ne_blk hown4 (blk_below hb4 HCur.out) (by decide)) (OV.ne_blk hown4 (blk_below hb4 HHJ.out.box) (by decide)) hB3; have HO3 : Hid (OutJ w w3 v3 (out ++ [hE h])) := hid ⟨_, hown3, row_step (e := hE h) hb4 HOv.out HRel.out HBel.out.size ok1 ov1 hg3⟩; have hb03 := box_at hJ3.box 0 (.slice (some ⟨g, 0, none⟩) n2 c2) rfl; obtain ⟨_, _, _, q0, q1, _⟩ := hJ3.cells h0; obtain ⟨cur3, hcur3⟩ := hJ3.ov.blk))
      obtain ⟨curz, hcurz⟩ := hJ3.ov.blk
      have q0' : w3.cell? ⟨g, 0, none⟩ = some (.slice (some ah) (m1 + 1) dh) := by
        obtain ⟨A', m', d', q0, _, _, _, _, q5⟩ := hJ3.cells h0
        have q6 := HLh.out.symm.trans q5
        injection q6 with q6 _
        rw [Nat.zero_mul, ← q6] at q0
        exact q0
      have HSt := hid (HStore.out w3 hJ3 A2 d2 HTail2.out HD2.out)
      have HO4 := hid (HO3.out.other (grown_set w3 g 0 (.slice A2 (m1) d2)) hcurz (by decide) (by decide))
      have fz3 := fun k => frozen_of_row w3 g k _ _ hcurz
      clear q0 q1 hown3 hg3 hB3 hJ3 a0 a1 a2 a3 a4 a5 a6 hc1 g0 g1 hb0 ok1 ov1 hb4 hB4 hown4 hcur3 hcurz
      go_cut [] (fun wx => StA w wx bh g n2 c2 L h (m1) A2 d2 ∧ OutJ w wx v3 (out ++ [hE h]))
      case first =>
        go_region
        all_goals
          go_wp2
          go_meet
          exact ⟨HSt.out.below (below_drew (Below.refl _ _)), HO4.out.below (below_drew (Below.refl _ _))⟩
      case rest =>
        clear fz3 q0' hb03
        obtain ⟨hA, hO⟩ := hcut
        have HA := hid hA
        have HO := hid hO
        have HLl : Hid (L.length = n2) := by unfold Hid; rw [HHR.out.1]; exact HX.out.1
        obtain ⟨k0, k1, kb, cur4, hcur4⟩ := hA.cells HLl.out h0
        rcases Nat.eq_zero_or_pos m1 with hz | hz
        · subst hz
          obtain ⟨q, rfl⟩ : ∃ q, n2 = q + 1 := ⟨n2 - 1, by omega⟩
          have hcap : q + 1 ≤ c2 := by
            have ho := HHJ.out.ov
            obtain ⟨A', c', e, hc⟩ := ho.openN (q + 1) HLl.out
            simp only [Value.slice.injEq] at e
            omega
          obtain ⟨Aq, mq, dq, rq, hx, hxq⟩ := lastRec (A2 := A2) (m := 0) (d2 := d2) (r := hRow h) HHR.out HX.out.1
          obtain ⟨l0, l1⟩ := hA.cellq HLl.out hx
          have HSB := hid (hA.copy HLl.out hxq rfl rfl)
          have HO5 := hid ((hO.other (grown_set wc g 0 (.slice Aq mq dq)) hcur4 (by decide) (by decide)).other (grown_set _ g 1 (.int .i64 (rq : Nat))) (heap_setCell_same wc g 0 _ _ (.slice Aq mq dq) hcur4) (by decide) (by decide))
          have fz4 := fun k => frozen_of_row wc g k _ _ hcur4
          have HCapQ := hid hcap
          clear hx hxq hA hO hcur4 hcap
          go_wp2
          go_cut [] (fun wy => StB w wy bh g q c2 L ∧ OutJ w wy v3 (out ++ [hE h]))
          case first =>
            go_region
            all_goals
              go_wp2
              go_meet
              exact ⟨HSB.out.below (below_drew (Below.refl _ _)), HO5.out.below (below_drew (Below.refl _ _))⟩
          case rest =>
            clear fz4 l0 l1 kb k0 k1
            obtain ⟨hB, hO6⟩ := hcut
            have hbb := box_at hB.box 0 (.slice (some ⟨g, 0, none⟩) (q + 1) c2) rfl
            have fzb := fun k => frozen_of_row wc bh k _ _ hB.box
            have hcutH := cutH_hi (A := some ⟨g, 0, none⟩) (c := c2) HCapQ.out (hi := q) (by omega) (q : Int) rfl
            have HO7 := hid (hO6.other (grown_set wc bh 0 (.slice (some ⟨g, 0, none⟩) q c2)) hB.box (by decide) (by decide))
            have HB0 := hid hB.box0
            rcases Nat.eq_zero_or_pos q with hq0 | hq0
            · subst hq0
              have HI := hid (init_none (wc.setCell ⟨bh, 0, none⟩ (.slice (some ⟨g, 0, none⟩) 0 c2)) bh (some ⟨g, 0, none⟩) c2 HB0.out)
              have HBB := hid (hB.bel.setCell (show w.heap.size ≤ (⟨bh, 0, none⟩ : Addr).block from hbh) (.slice (some ⟨g, 0, none⟩) 0 c2))
              clear hB hO6
              go_wp2_with (go_at_call 26; (with_reducible refine HI.out.mono ?_); rintro r w1 ⟨rfl, rfl⟩)
              have htl : (hL h).tail = [] := List.eq_nil_of_length_eq_zero HA.out.ents.1
              have hT0 : T = [] := List.eq_nil_of_length_eq_zero HX.out.2
              obtain ⟨m', hm', hMJ⟩ := HM.out.step HHF.out HO7.out (.inl ⟨hT0, _, _, HB0.out⟩) (HM.out.rep.gone htl) HBB.out
              refine wp_goto ⟨rfl, ?_⟩; refine Jumped.mk m' hm' ?_
              unfold MJ
              exact ⟨bh, v3, _, _, _, _, _, _, _, _, _, _, _, _, _, _, _, _, _, _, _, _, _, _, _, _, _, _, _, _, _, _, _, _, _, _, _, _, _, _, _, _, _, _, _, _, _, _, _, _, _, _, _, _, _, _, _, _, _, _, _, _, _, _, _, _, _, _, _, _, _, _, _, _, _, _, _, _, _, _, _, _, _, _, _, _, _, _, _, _, _, _, _, _, _, _, _, _, _, _, _, rfl, hMJ⟩
            · have hJ6 := hB.hj hbh hq0 HHR.out HX.out.1
              have HJ6 := hid hJ6
              have HI := hid (init_any w _ w.heap.size bh g q c2 _ _ hJ6 (Nat.le_refl _) (by omega))
              clear hB hO6 hJ6
              go_wp2_with (go_at_call 26; (with_reducible refine HI.out.mono ?_); rintro r w1 ⟨rfl, hD⟩; have HD := hid hD; clear hD)
              obtain ⟨L2, H2, hJ2, hP2, hF2, hG2⟩ := HD.out
              obtain ⟨cur6, hcur6⟩ := HJ6.out.ov.blk
              have htl : (hL h).tail = [] := List.eq_nil_of_length_eq_zero HA.out.ents.1
              have hTq : T.length = q := HX.out.2
              have hTn : T ≠ [] := by intro e; rw [e] at hTq; simp at hTq; omega
              have hlf := last_first noHd h T hTn
              rw [hTq] at hlf
              obtain ⟨m', hm', hMJ⟩ := HM.out.step HHF.out (HO7.out.other hG2 hcur6 (by decide) (by decide)) (.inr ⟨g, q, c2, L2, hq0, by omega, hJ2, hF2⟩) ((HM.out.rep.gone htl).perm (hP2.trans hlf)) hJ2.bel
              refine wp_goto ⟨rfl, ?_⟩; refine Jumped.mk m' hm' ?_
              unfold MJ
              exact ⟨bh, v3, _, _, _, _, _, _, _, _, _, _, _, _, _, _, _, _, _, _, _, _, _, _, _, _, _, _, _, _, _, _, _, _, _, _, _, _, _, _, _, _, _, _, _, _, _, _, _, _, _, _, _, _, _, _, _, _, _, _, _, _, _, _, _, _, _, _, _, _, _, _, _, _, _, _, _, _, _, _, _, _, _, _, _, _, _, _, _, _, _, _, _, _, _, _, _, _, _, _, _, rfl, hMJ⟩
        · have hm0 : m1 ≠ 0 := by omega
          have hd5 : decide (m1 = 0) = false := decide_eq_false hm0
          have hd6 : ((m1 : Int) == 0) = false := by rw [beq_eq_false_iff_ne]; omega
          have hJ5 := hA.hj HHR.out HX.out.1 hz
          have hHF0 : HF (mkHd (hL h).tail (hRow h) :: T) (0 + 1) := by have := HHF.out.set0 (mkHd (hL h).tail (hRow h)); simpa using this
          have HI := hid (fix_any w wc w.heap.size bh g n2 c2 _ _ hJ5 (Nat.le_refl _) (by omega) h0 hHF0)
          have HCur4 := hid hcur4
          clear hJ5 hHF0 hA hO hcur4
          go_wp2_with (go_at_call 28; (with_reducible refine HI.out.mono ?_); rintro r w1 ⟨rfl, hD⟩; have HD := hid hD; clear hD)
          obtain ⟨L2, H2, hJ2, hP2, hF2, hG2⟩ := HD.out
          have htl : (hL h).tail ≠ [] := by intro e; have := HA.out.ents.1; rw [e] at this; simp at this; omega
          obtain ⟨m', hm', hMJ⟩ := HM.out.step HHF.out (HO.out.other hG2 HCur4.out (by decide) (by decide)) (.inr ⟨g, n2, c2, L2, h0, hn2, hJ2, hF2⟩) ((HdRep.next (H := []) HM.out.rep htl).perm hP2) hJ2.bel
          refine wp_goto ⟨rfl, ?_⟩; refine Jumped.mk m' hm' ?_
          unfold MJ
          exact ⟨bh, v3, _, _, _, _, _, _, _, _, _, _, _, _, _, _, _, _, _, _, _, _, _, _, _, _, _, _, _, _, _, _, _, _, _, _, _, _, _, _, _, _, _, _, _, _, _, _, _, _, _, _, _, _, _, _, _, _, _, _, _, _, _, _, _, _, _, _, _, _, _, _, _, _, _, _, _, _, _, _, _, _, _, _, _, _, _, _, _, _, _, _, _, _, _, _, _, _, _, _, _, rfl, hMJ⟩
  intro hpass
  go_wp2
  go_loopw [4, 13] (fun s i wr => ∃ k : Nat, k ≤ n ∧ i = .int .i64 k ∧ s = .int .i64 (totR (ess.take k) : Int) ∧ Below w.heap.size w wr) (fun s i wr => n - (intOf i).toNat)
  case atStart => exact ⟨0, Nat.zero_le _, rfl, rfl, Below.refl _ _⟩
  case round =>
    obtain ⟨k, hk, rfl, rfl, hBr⟩ := hrel
    by_cases hlt : k < n
    · obtain ⟨ad, rfl, Aj, nj, cj, hcj, hrj, hnc⟩ := H.out.at_ hlt
      have hcj := below_cell hBr hcj
      have hlj := hrj.1
      have hT1 := HTk.out k hk
      have hT2 := HTk.out (k + 1) (by omega)
      have hTs := HTs.out k hlt
      rw [hlj] at hTs
      rw [hTs] at hT2
      have hsr := HS.out k hlt
      have HRj := hid (hrj.below hBr)
      have HTs2 := hid hTs
      have HSr := hid hsr
      clear hTs hsr hrj hlj
      generalize totR (ess.take k) = S at *
      have hmn : (nj : Int) ≤ 40001 - (S : Int) := by omega
      go_wp2_with (go_at_call 25; (with_reducible refine (ordered_any Aj nj cj (er ess k) _ HRj.out).mono ?_); rintro r w1 ⟨rfl, hb1⟩; rw [HSr.out]; have hB1 := below_then hBr hb1)
      all_goals
        first
        | (go_roundw
           case rel => exact ⟨k + 1, by omega, by go_num, by rw [HTs2.out]; exact congrArg (Value.int .i64) (by omega), hB1⟩
           case measure => simp [intOf]; omega)
    · obtain rfl : k = n := by omega
      have hT := hf.out
      have hte : totR (ess.take k) = totR ess := by rw [List.take_of_length_le (by rw [HL.out]; exact Nat.le_refl _)]
      rw [hte]
      have hn64 : ¬ (64 : Int) < (k : Int) := by omega
      have hd1 : decide ((64 : Int) < (k : Int)) = false := decide_eq_false hn64
      have hd2 : decide ((40000 : Int) < ((totR ess : Nat) : Int)) = false := decide_eq_false (by omega)
      clear HTk HTs hte hn64 HS
      go_wp2
      have hHb : HbJ w (wr.alloc (.cells #[.slice none 0 0] 59)) wr.heap.size (hdsK ess 0) := ⟨_, [], OV.nil _ _ _ _, RelV.nil, heap_alloc_new wr _, below_alloc' hBr _⟩
      have hbh := hBr.size
      obtain ⟨bh, hbhe⟩ : ∃ bh, wr.heap.size = bh := ⟨_, rfl⟩
      rw [hbhe] at hHb hbh ⊢
      have HHb := hid hHb
      clear hHb hbhe hd1 hd2 hT
      go_loopw [37] (fun i wr => ∃ q : Nat, q ≤ k ∧ i = .int .i64 q ∧ HbJ w wr bh (hdsK ess q)) (fun i wr => k - (intOf i).toNat)
      case atStart => exact ⟨0, Nat.zero_le _, rfl, HHb.out⟩
      case round =>
        clear HHb
        obtain ⟨q, hq, rfl, hJ⟩ := hrel
        by_cases hql : q < k
        · obtain ⟨v, L, hv, hrl, hbox, hBq⟩ := hJ
          obtain ⟨ad, hA, Aj, nj, cj, hcj, hrj, hnc⟩ := H.out.at_ hql
          subst hA
          have hcj := below_cell hBq hcj
          have hlj := hrj.1
          have hLl : L.length ≤ q := by rw [hrl.1]; exact hdsK_len ess q
          have hrm := hrj.2.1
          rcases Nat.eq_zero_or_pos nj with h0 | h0
          · have hz : er ess q = [] := List.eq_nil_of_length_eq_zero (by omega)
            have hd3 : decide (0 < nj) = false := decide_eq_false (by omega)
            have HN : Hid (HbJ w wr bh (hdsK ess (q + 1))) := by unfold Hid; rw [hdsK_nil hz]; exact ⟨v, L, hv, hrl, hbox, hBq⟩
            clear h0 hz hrj hlj hv hrl hbox
            go_wp2
            go_roundw
            case rel => exact ⟨q + 1, by omega, by go_num, HN.out⟩
            case measure => simp [intOf]; omega
          · have hz : er ess q ≠ [] := by intro e; rw [e] at hlj; simp at hlj; omega
            have hd3 : decide (0 < nj) = true := decide_eq_true h0
            have hb0 := box_at hbox 0 v rfl
            have HV := hid hv
            have HBx := hid hbox
            have hHd : RelV noHd (PHd w) (L ++ [[.slice Aj nj cj, .int .i64 (q : Int)]]) (hdsK ess (q + 1)) := by
              rw [hdsK_cons hz]
              exact hrl.snoc ⟨Aj, nj, cj, rfl, hrj, hnc, h0⟩
            have HHd := hid hHd
            clear hrj hlj hrl hbox hHd hz hv
            go_wp2_with (at_builtin; go_loud (refine wpV_append1 59 61 _ 2 32 usH hdinfo rfl (by omega) w _ w.heap.size rfl (.tmp 45) (.tmp 49) rfl v L rfl HV.out #[.slice Aj nj cj, .int .i64 (q : Int)] rfl (by intro u hu; simp only [List.mem_cons, List.not_mem_nil, or_false] at hu; rcases hu with rfl | rfl <;> rfl) 1 _ rfl rfl (by simp only [maxLen]; omega) (by omega) hBq hBq.size ?_); intro v4 w4 hown4 hB4 hg4 _; obtain ⟨B4, d4, hve4, _⟩ := hown4.openN (L.length + 1) (by simp); subst hve4; have hbx4 := blk_grown' hg4 HBx.out (OV.ne_blk HV.out HBx.out (by decide)); have hb4 := box_at hbx4 0 v rfl; have fz4 := fun i => frozen_of_row w4 bh i _ _ hbx4; have HN : Hid (HbJ w (w4.setCell ⟨bh, 0, none⟩ (.slice B4 (L.length + 1) d4)) bh (hdsK ess (q + 1))) := ⟨_, _, hown4.other (grown_set w4 bh 0 (.slice B4 (L.length + 1) d4)) (.inr (hown4.ne_blk hbx4 (by decide))), HHd.out, heap_setCell_same w4 bh 0 _ _ (.slice B4 (L.length + 1) d4) hbx4, hB4.setCell hbh _⟩)
            go_roundw
            case rel => exact ⟨q + 1, by omega, by go_num, HN.out⟩
            case measure => simp [intOf]; omega
        · obtain rfl : q = k := by omega
          have hBq : Below w.heap.size w wr := by obtain ⟨v, L, _, _, _, h4⟩ := hJ; exact h4
          have hrep : HdRep (hdsK ess q) ess := by
            have := hdsK_rep ess
            rw [HL.out] at this
            exact this
          have hHl := hdsK_len ess q
          have HRp := hid hrep
          rcases hJ.hp with ⟨hH0, A0, c0, hbx⟩ | ⟨g, c2, L, h0, hHJ⟩
          · have HI := hid (init_none wr bh A0 c0 hbx)
            have HBx := hid hbx
            have HH0 := hid hH0
            clear hJ hbx hH0 hrep
            go_wp2_with (go_at_call 26; (with_reducible refine HI.out.mono ?_); rintro r w1 ⟨rfl, rfl⟩)
            refine wp_label_k (by assumption) (hpass (totR ess) _ _ ?_)
            unfold MJ
            refine ⟨bh, .slice none 0 0, ess, hdsK ess q, [], _, _, _, _, _, _, _, _, _, _, _, _, _, _, _, _, _, _, _, _, _, _, _, _, _, _, _, _, _, _, _, _, _, _, _, _, _, _, _, _, _, _, _, _, _, _, _, _, _, _, _, _, _, _, _, _, _, _, _, _, _, _, _, _, _, _, _, _, _, _, _, _, _, _, _, _, _, _, _, _, _, _, _, _, _, _, _, _, _, _, _, _, _, _, _, _, rfl, ?_⟩
            exact ⟨⟨[], OV.nil _ _ _ _, RelV.nil⟩, .inl ⟨HH0.out, A0, c0, HBx.out⟩, HRp.out, fun rest hr => hr, by simp, hf.out, rfl, hBq, hbh, hsm⟩
          · have HI := hid (init_any w wr w.heap.size bh g (hdsK ess q).length c2 L (hdsK ess q) hHJ (Nat.le_refl _) (by omega))
            clear hJ hrep hHJ
            go_wp2_with (go_at_call 26; (with_reducible refine HI.out.mono ?_); rintro r w1 ⟨rfl, hD⟩; have HD := hid hD; clear hD)
            obtain ⟨L2, H2, hJ2, hP2, hF2, hG2⟩ := HD.out
            refine wp_label_k (by assumption) (hpass (totR ess) _ _ ?_)
            unfold MJ
            refine ⟨bh, .slice none 0 0, ess, H2, [], _, _, _, _, _, _, _, _, _, _, _, _, _, _, _, _, _, _, _, _, _, _, _, _, _, _, _, _, _, _, _, _, _, _, _, _, _, _, _, _, _, _, _, _, _, _, _, _, _, _, _, _, _, _, _, _, _, _, _, _, _, _, _, _, _, _, _, _, _, _, _, _, _, _, _, _, _, _, _, _, _, _, _, _, _, _, _, _, _, _, _, _, _, _, _, _, rfl, ?_⟩
            exact ⟨⟨[], OV.nil _ _ _ _, RelV.nil⟩, .inr ⟨g, (hdsK ess q).length, c2, L2, h0, by omega, hJ2, hF2⟩, HRp.out.perm hP2, fun rest hr => hr, by simp, hf.out, rfl, hJ2.bel, hbh, hsm⟩
end Go.Proofs.Ytnjhiiakpndnnaa
