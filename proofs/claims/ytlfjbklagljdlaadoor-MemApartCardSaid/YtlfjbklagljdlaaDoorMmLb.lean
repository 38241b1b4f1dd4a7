/- Layer 9's laws: MemLatest: the walk. -/
import Derived.Test.YtlfjbklagljdlaaDoorMmLa
namespace Go.Proofs.YtlfjbklagljdlaaDoor
open Go.RowKit
set_option linter.unusedVariables false
set_option linter.unusedSimpArgs false

theorem wantF_skip {s : Int} {es L : List EntR} {last : Option (List UInt8)} {k : Nat} (hk : k < L.length) (h : last = some (eKey (elt noEnt L k))) : wantF s es last (L.drop k) = wantF s es last (L.drop (k + 1)) := by rw [drop_elt hk, wantF, if_pos h]
theorem wantF_yes {s : Int} {es L : List EntR} {last : Option (List UInt8)} {k : Nat} (hk : k < L.length) (h : last ≠ some (eKey (elt noEnt L k))) {y : EntR} (hg : getR (eKey (elt noEnt L k)) s es = (y, true)) (hn : eGone y = false) : wantF s es last (L.drop k) = y :: wantF s es (some (eKey (elt noEnt L k))) (L.drop (k + 1)) := by rw [drop_elt hk, wantF, if_neg h, hg, if_pos ⟨rfl, hn⟩]
theorem wantF_no {s : Int} {es L : List EntR} {last : Option (List UInt8)} {k : Nat} (hk : k < L.length) (h : last ≠ some (eKey (elt noEnt L k))) {y : EntR} {b : Bool} (hg : getR (eKey (elt noEnt L k)) s es = (y, b)) (hn : ¬ (b = true ∧ eGone y = false)) : wantF s es last (L.drop k) = wantF s es (some (eKey (elt noEnt L k))) (L.drop (k + 1)) := by rw [drop_elt hk, wantF, if_neg h, hg, if_neg hn]
/-- Where MemLatest's loop stands. -/
def WantJ (s : Int) (La : List EntR) (wA wr : World) (k : Nat) (v : Value) (last : Option (List UInt8)) (V : List (List Value)) (os : List EntR) : Prop :=
  wantF s La none La = os ++ wantF s La last (La.drop k) ∧ V.length ≤ k ∧ OV wr wA.heap.size 28 5 v V ∧ RelV noEnt (PEo wr wA.heap.size) V os ∧ Below wA.heap.size wA wr
theorem WantJ.same {s : Int} {La : List EntR} {wA wr w3 : World} {k : Nat} {v : Value} {last last' : Option (List UInt8)} {V : List (List Value)} {os : List EntR} (h : WantJ s La wA wr k v last V os) (he : wantF s La last (La.drop k) = wantF s La last' (La.drop (k + 1))) (hb : Below wr.heap.size wr w3) : WantJ s La wA w3 (k + 1) v last' V os := by
  obtain ⟨h1, h2, h3, h4, h5⟩ := h
  exact ⟨by rw [h1, he], by omega, h3.below hb, h4.mono fun x a hx => hx.below hb, below_then h5 hb⟩
set_option maxHeartbeats 64000000 in
set_option maxRecDepth 100000 in
theorem MemLatest_walk (A : Option Addr) (n c : Nat) (es : List EntR) (s : Int) (w : World) (h : REnts w A n es) (hc : n ≤ c) (hT : TabOK w) :
    Calls Tryd.prog 9 #[.slice A n c, .int .i64 s] w fun e w' => e = .returned (.bool true) ∧ Below w.heap.size w w' := by
  have hm := h.2.1
  have H := hid h
  have HL := hid h.1
  have HT := hid hT
  clear h hT
  go_enter Tryd.func9, Tryd.ntmps9
  go_wp2_with (go_at_call 16; (with_reducible refine (new_any w.heap.size w (Nat.le_refl _)).mono ?_); rintro r w1 ⟨rfl, hm1, hb1⟩)
  obtain ⟨bm, hbm⟩ : ∃ bm, w.heap.size = bm := ⟨_, rfl⟩
  have hJ0 : AddJ w w1 bm es 0 [] := by
    rw [← hbm]
    exact ⟨hm1, rfl, Nat.le_refl _, hb1⟩
  have HJ0 := hid hJ0
  have HBM := hid hbm
  rw [hbm]
  clear hm1 hJ0 hbm hb1
  go_loopw [6] (fun i wr => ∃ (k : Nat) (l : List NodeR), k ≤ n ∧ i = .int .i64 k ∧ k ≤ 60 ∧ AddJ w wr bm es k l) (fun i wr => n - (intOf i).toNat)
  case atStart => exact ⟨0, [], Nat.zero_le _, rfl, Nat.zero_le _, HJ0.out⟩
  case round =>
    clear HJ0
    obtain ⟨k, l, hk, rfl, hk60, hJ⟩ := hrel
    by_cases hlt : k < n ∧ k < 60
    · obtain ⟨hlt, h60⟩ := hlt
      obtain ⟨ad, rfl, hc1⟩ := H.out.at_ hlt
      obtain ⟨Ak, nk, ck, Av, nv, cv, a0, a1, a2, a3, a4, a5, a6, a7, a8⟩ := hc1
      have hBr := hJ.2.2.2
      have HJ := hid hJ
      have HMm := hid hJ.1
      have hlk := hJ.2.2.1
      have hkn : k < es.length := by rw [HL.out]; exact hlt
      have HSt := hid (fun w7 (hA : AddO wr w7 w.heap.size bm l (elt noEnt es k)) => hJ.step hkn hA)
      have b0 := below_cell hBr a0
      have b1 := below_cell hBr a1
      have b2 := below_cell hBr a2
      have b3 := below_cell hBr a3
      have b4 := below_cell hBr a4
      have HStB := hid (fun w3 (hb3 : Below wr.heap.size wr w3) w7 (hA : AddO w3 w7 w.heap.size bm l (elt noEnt es k)) => (hJ.below hb3).step hkn hA)
      generalize elt noEnt es k = x at *
      have HKV := hid (⟨a5, a6⟩ : _ ∧ _)
      clear a5 a6 hJ HSt
      by_cases hli : nk ≤ 3000 ∧ nv ≤ 3000
      · have HLi := hid (decide_eq_true hli)
        clear hli
        go_wp2_with (first
          | (go_at_call 17; (with_reducible refine (light_any Ak nk ck (eSeq x) (eGone x) (eTil x) Av nv cv _).mono ?_); rintro r w3 ⟨rfl, hb3⟩; rw [HLi.out]; have hB3 := below_then hBr hb3; have d0 := below_cell hB3 a0; have d1 := below_cell hB3 a1; have d2 := below_cell hB3 a2; have d3 := below_cell hB3 a3; have d4 := below_cell hB3 a4)
          | (go_at_call 18; (with_reducible refine (add_any w.heap.size bm l Ak nk ck Av nv cv x _ (HMm.out.below hb3) (HT.out.below hB3) (HKV.out.1.below hB3) (HKV.out.2.below hB3) (by omega)).mono ?_); rintro r w7 ⟨rfl, hadd⟩; have HN := hid (HStB.out _ hb3 _ hadd); clear hadd))
        obtain ⟨l', hl'⟩ := HN.out
        have HL' := hid hl'
        clear hl' HN
        go_roundw
        case rel => exact ⟨k + 1, l', by omega, by go_num, by omega, HL'.out⟩
        case measure => simp [intOf]; omega
      · have HLi := hid (decide_eq_false hli)
        clear hli
        go_wp2_with (first
          | (go_at_call 17; (with_reducible refine (light_any Ak nk ck (eSeq x) (eGone x) (eTil x) Av nv cv _).mono ?_); rintro r w3 ⟨rfl, hb3⟩; rw [HLi.out]; have hB3 := below_then hBr hb3)
          | (go_at_call 15; (with_reducible refine (awake_any _ (HT.out.below hB3)).mono ?_); rintro r w8 ⟨rfl, hb8⟩; have hB8 := below_then hB3 hb8))
        go_ret
        exact ⟨rfl, hB8⟩
    · have hBr := hJ.2.2.2
      have hl60 := hJ.2.2.1
      have HJ := hid hJ
      have hlm : (l.map nEnt).length = l.length := List.length_map _
      have HP3 := hid (fun (w3 : World) (hb : Below wr.heap.size wr w3) => all_any w.heap.size bm l w3 (HJ.out.1.below hb) (by omega))
      have HP4 := hid (fun (w3 : World) (hb : Below wr.heap.size wr w3) => latest_any w.heap.size bm l none 0 0 [] none 0 0 [] s w3 (HJ.out.1.below hb) (RB.nil _) (RB.nil _) (by omega))
      have HLw := hid (latest_want HJ.out.1.srt HJ.out.1.mayE s)
      have HG : Hid (∀ (w3 : World) (Ak : Option Addr) (nk ck : Nat) (key : List UInt8), Below wr.heap.size wr w3 → RB w3 Ak nk key → Calls Tryd.prog 12 #[.pointer (some ⟨bm, 0, none⟩), .slice Ak nk ck, .int .i64 s] w3 fun r w' => GetC w3 w' (getR key s (l.map nEnt)).1 (getR key s (l.map nEnt)).2 r) := fun w3 Ak nk ck key hb hk => by
        have := get_any w.heap.size bm l Ak nk ck key s w3 (HJ.out.1.below hb) hk
        rw [getE_R HJ.out.1.srt] at this
        exact this
      have HBw := hid hBr
      rw [HLw.out] at HP4
      clear hJ HJ HL HLw
      generalize l.map nEnt = La at *
      have ha60 : La.length ≤ 60 := by omega
      clear hlm hl60
      by_cases hz : k < n
      · have hz2 : ¬ k < 60 := fun h => hlt ⟨hz, h⟩
        have hd1 : decide ((k : Int) < 60) = false := decide_eq_false (by omega)
        have hd2 : decide ((k : Int) < (n : Int)) = true := decide_eq_true (by omega)
        clear hlt
        go_wp2_with (go_at_call 21; (with_reducible refine (HP3.out _ (Below.refl _ _)).mono ?_); rintro r wA hl3; obtain ⟨A1, c1, V1, rfl, hv1, hr1, hre1, hbA⟩ := hl3.rowP (by omega); have HRe1 := hid hre1; clear hv1 hr1 hre1 hl3)
        obtain ⟨m, hm0⟩ : ∃ m, La.length = m := ⟨_, rfl⟩
        rw [hm0]
        have HM := hid hm0
        clear hm0 HP3
        go_loopw [7, 8, 40] (fun v ls i wr => ∃ (k : Nat) (last : Option (List UInt8)) (V : List (List Value)) (os : List EntR), k ≤ m ∧ i = .int .i64 k ∧ ls = .string (bstr (last.getD [])) ∧ (k = 0 → last = none) ∧ (0 < k → last ≠ none) ∧ WantJ s La wA wr k v last V os) (fun v ls i wr => m - (intOf i).toNat)
        case atStart => exact ⟨0, none, [], [], Nat.zero_le _, rfl, rfl, fun _ => rfl, fun h => absurd h (by omega), rfl, Nat.le_refl _, OV.nil _ _ _ _, RelV.nil, Below.refl _ _⟩
        case round =>
          obtain ⟨k, last, V, os, hk, rfl, rfl, hk0, hk1, hJ⟩ := hrel
          have hBq := hJ.2.2.2.2
          have hBw := below_then hbA hBq
          have hB0 := below_then HBw.out hBw
          have HJ := hid hJ
          by_cases hlt : k < m
          · have hkl : k < La.length := by rw [HM.out]; exact hlt
            obtain ⟨ad, hA1, hc1⟩ := HRe1.out.at_ hkl
            subst hA1
            obtain ⟨Ak, nk, ck, Av, nv, cv, a0, a1, a2, a3, a4, a5, a6, a7, a8⟩ := hc1
            have a0 := below_cell hBq a0
            have a1 := below_cell hBq a1
            have a2 := below_cell hBq a2
            have a3 := below_cell hBq a3
            have a4 := below_cell hBq a4
            have HSk := hid (fun h => wantF_skip (s := s) (es := La) (last := last) hkl h)
            have HYe := hid (fun h y hg hn => wantF_yes (s := s) (es := La) (last := last) hkl h (y := y) hg hn)
            have HNo := hid (fun h y b hg hn => wantF_no (s := s) (es := La) (last := last) hkl h (y := y) (b := b) hg hn)
            generalize elt noEnt La k = x at *
            have hbx := heap_alloc_new wr (.cells #[.slice Ak nk ck, .int .i64 (eSeq x), .bool (eGone x), .int .i64 (eTil x), .slice Av nv cv] 28)
            have hbb : Below wr.heap.size wr (wr.alloc (.cells #[.slice Ak nk ck, .int .i64 (eSeq x), .bool (eGone x), .int .i64 (eTil x), .slice Av nv cv] 28)) := below_alloc' (Below.refl _ _) _
            have hkb := a5.below (below_then hBq hbb)
            have cv1 := RB.conv hkb ck
            have HKb := hid hkb
            have HStr := hid (fun q => decide_str (eKey x) q)
            have HRes : Hid (∀ y b, getR (eKey x) s La = (y, b) → Calls Tryd.prog 12 #[.pointer (some ⟨bm, 0, none⟩), .slice Ak nk ck, .int .i64 s] (wr.alloc (.cells #[.slice Ak nk ck, .int .i64 (eSeq x), .bool (eGone x), .int .i64 (eTil x), .slice Av nv cv] 28)) fun r w' => GetC (wr.alloc (.cells #[.slice Ak nk ck, .int .i64 (eSeq x), .bool (eGone x), .int .i64 (eTil x), .slice Av nv cv] 28)) w' y b r) := fun y b hyb => by
              have := HG.out _ Ak nk ck (eKey x) (below_then hBw hbb) HKb.out
              rw [hyb] at this
              exact this
            clear a5 a6 hJ hkb
            by_cases hsk : last = some (eKey x)
            · have hkp : 0 < k := Nat.pos_of_ne_zero (fun h => by rw [hk0 h] at hsk; cases hsk)
              have hd3 : decide (0 < k) = true := decide_eq_true (by omega)
              have hg : last.getD [] = eKey x := by rw [hsk]; rfl
              have hs1 : ((bstr (eKey x)).toList == (bstr (last.getD [])).toList) = true := by rw [HStr.out, hg]; exact decide_eq_true rfl
              have HN := hid (HJ.out.same (HSk.out hsk) hbb)
              have HLn := hid hk1
              clear hsk hg HSk HYe HNo HRes hk0 hk1
              go_wp2
              go_roundw
              case rel => exact ⟨k + 1, last, V, os, by omega, by go_num, rfl, fun h => absurd h (by omega), fun _ => HLn.out hkp, HN.out⟩
              case measure => simp [intOf]; omega
            · have HNs := hid hsk
              have hskip : ∀ (hd3 : decide (0 < k) = true), ((bstr (eKey x)).toList == (bstr (last.getD [])).toList) = false := fun hd3 => by
                have hkp : 0 < k := by have := of_decide_eq_true hd3; omega
                rw [HStr.out]
                refine decide_eq_false fun e => hsk ?_
                cases last with
                | none => exact absurd rfl (hk1 hkp)
                | some q => rw [e]; rfl
              obtain ⟨y, b, hyb⟩ : ∃ y b, getR (eKey x) s La = (y, b) := ⟨_, _, rfl⟩
              have HGt := hid (HRes.out y b hyb)
              have HYb := hid hyb
              have HO := hid HJ.out.2.2.1
              have HVl := hid HJ.out.2.1
              have HRel := hid HJ.out.2.2.2.1
              have HW1 := hid HJ.out.1
              clear hyb HRes hsk hk0 hk1
              rcases Nat.eq_zero_or_pos k with hkz | hkz
              · have hd3 : decide (0 < k) = false := decide_eq_false (by omega)
                clear hskip hkz
                cases b
                · have HN := hid (fun w3 hb => HJ.out.same (w3 := w3) (HNo.out HNs.out y false HYb.out (fun h => by cases h.1)) hb)
                  go_wp2_with (go_at_call 12; (with_reducible refine HGt.out.mono ?_); rintro r w7 ⟨kv, vv, rfl, hk7, hv7, hb7⟩; have HOk := hid hk7; have HOv := hid hv7; obtain ⟨A7, c7, hkve, _, _⟩ := hk7.open_; obtain ⟨A8, c8, hvve, _, _⟩ := hv7.open_; subst hkve hvve; have hb7' := below_then hbb hb7; have hba := below_alloc' (Below.refl w7.heap.size w7) (.cells #[.slice A7 (eKey y).length c7, .int .i64 (eSeq y), .bool (eGone y), .int .i64 (eTil y), .slice A8 (eVal y).length c8] 28); have hb7b := below_then hb7' hba; clear hk7 hv7)
                  go_roundw
                  case rel => exact ⟨k + 1, some (eKey x), V, os, by omega, by go_num, rfl, fun h => absurd h (by omega), (fun _ h => by cases h), HN.out _ hb7b⟩
                  case measure => simp [intOf]; omega
                · cases hgn : eGone y
                  · have HTk := hid (HYe.out HNs.out y HYb.out hgn)
                    have HGt2 := HGt
                    unfold GetC at HGt2
                    rw [hgn] at HGt2
                    go_wp2_with (first
                      | (go_at_call 12; (with_reducible refine HGt2.out.mono ?_); rintro r w7 ⟨kv, vv, rfl, hk7, hv7, hb7⟩; have HOk := hid hk7; have HOv := hid hv7; obtain ⟨A7, c7, hkve, _, _⟩ := hk7.open_; obtain ⟨A8, c8, hvve, _, _⟩ := hv7.open_; subst hkve hvve; have hb7' := below_then hbb hb7; have hba := below_alloc' (Below.refl w7.heap.size w7) (.cells #[.slice A7 (eKey y).length c7, .int .i64 (eSeq y), .bool false, .int .i64 (eTil y), .slice A8 (eVal y).length c8] 28); have hb7b := below_then hb7' hba; clear hk7 hv7)
                      | (at_builtin; go_loud (refine wpV_append1 22 28 _ 5 72 Tryd.underlying22 eninfo rfl (by omega) wA _ wA.heap.size rfl (.tmp 71) (.tmp 73) rfl u7 V rfl (HO.out.below hb7b) #[.slice A7 (eKey y).length c7, .int .i64 (eSeq y), .bool false, .int .i64 (eTil y), .slice A8 (eVal y).length c8] rfl (ones5 rfl rfl rfl rfl rfl) 1 _ (by simp) rfl (by have := HVl.out; simp only [maxLen]; omega) (by have := HVl.out; omega) (below_then hBq hb7b) (below_then hBq hb7b).size ?_); intro v4 w4 hown4 hB4 hg4 _))
                    have HRow := hid (row_step (e := y) hb7b HO.out HRel.out hBq.size ((HOk.out.mono hbb.size).below hba) ((HOv.out.mono hbb.size).below hba) hg4)
                    go_roundw
                    case rel => exact ⟨k + 1, some (eKey x), _, os ++ [y], by omega, by go_num, rfl, fun h => absurd h (by omega), (fun _ h => by cases h), by rw [HW1.out, HTk.out]; simp, by have := HVl.out; simp; omega, hown4, by have := HRow.out; rwa [hgn] at this, hB4⟩
                    case measure => simp [intOf]; omega
                  · have HGt2 := HGt
                    unfold GetC at HGt2
                    rw [hgn] at HGt2
                    have HN := hid (fun w3 hb => HJ.out.same (w3 := w3) (HNo.out HNs.out y true HYb.out (fun h => by rw [hgn] at h; cases h.2)) hb)
                    go_wp2_with (go_at_call 12; (with_reducible refine HGt2.out.mono ?_); rintro r w7 ⟨kv, vv, rfl, hk7, hv7, hb7⟩; have HOk := hid hk7; have HOv := hid hv7; obtain ⟨A7, c7, hkve, _, _⟩ := hk7.open_; obtain ⟨A8, c8, hvve, _, _⟩ := hv7.open_; subst hkve hvve; have hb7' := below_then hbb hb7; have hba := below_alloc' (Below.refl w7.heap.size w7) (.cells #[.slice A7 (eKey y).length c7, .int .i64 (eSeq y), .bool true, .int .i64 (eTil y), .slice A8 (eVal y).length c8] 28); have hb7b := below_then hb7' hba; clear hk7 hv7)
                    go_roundw
                    case rel => exact ⟨k + 1, some (eKey x), V, os, by omega, by go_num, rfl, fun h => absurd h (by omega), (fun _ h => by cases h), HN.out _ hb7b⟩
                    case measure => simp [intOf]; omega
              · have hd3 : decide (0 < k) = true := decide_eq_true (by omega)
                have hs1 := hskip hd3
                clear hskip hkz
                cases b
                · have HN := hid (fun w3 hb => HJ.out.same (w3 := w3) (HNo.out HNs.out y false HYb.out (fun h => by cases h.1)) hb)
                  go_wp2_with (go_at_call 12; (with_reducible refine HGt.out.mono ?_); rintro r w7 ⟨kv, vv, rfl, hk7, hv7, hb7⟩; have HOk := hid hk7; have HOv := hid hv7; obtain ⟨A7, c7, hkve, _, _⟩ := hk7.open_; obtain ⟨A8, c8, hvve, _, _⟩ := hv7.open_; subst hkve hvve; have hb7' := below_then hbb hb7; have hba := below_alloc' (Below.refl w7.heap.size w7) (.cells #[.slice A7 (eKey y).length c7, .int .i64 (eSeq y), .bool (eGone y), .int .i64 (eTil y), .slice A8 (eVal y).length c8] 28); have hb7b := below_then hb7' hba; clear hk7 hv7)
                  go_roundw
                  case rel => exact ⟨k + 1, some (eKey x), V, os, by omega, by go_num, rfl, fun h => absurd h (by omega), (fun _ h => by cases h), HN.out _ hb7b⟩
                  case measure => simp [intOf]; omega
                · cases hgn : eGone y
                  · have HTk := hid (HYe.out HNs.out y HYb.out hgn)
                    have HGt2 := HGt
                    unfold GetC at HGt2
                    rw [hgn] at HGt2
                    go_wp2_with (first
                      | (go_at_call 12; (with_reducible refine HGt2.out.mono ?_); rintro r w7 ⟨kv, vv, rfl, hk7, hv7, hb7⟩; have HOk := hid hk7; have HOv := hid hv7; obtain ⟨A7, c7, hkve, _, _⟩ := hk7.open_; obtain ⟨A8, c8, hvve, _, _⟩ := hv7.open_; subst hkve hvve; have hb7' := below_then hbb hb7; have hba := below_alloc' (Below.refl w7.heap.size w7) (.cells #[.slice A7 (eKey y).length c7, .int .i64 (eSeq y), .bool false, .int .i64 (eTil y), .slice A8 (eVal y).length c8] 28); have hb7b := below_then hb7' hba; clear hk7 hv7)
                      | (at_builtin; go_loud (refine wpV_append1 22 28 _ 5 72 Tryd.underlying22 eninfo rfl (by omega) wA _ wA.heap.size rfl (.tmp 71) (.tmp 73) rfl u7 V rfl (HO.out.below hb7b) #[.slice A7 (eKey y).length c7, .int .i64 (eSeq y), .bool false, .int .i64 (eTil y), .slice A8 (eVal y).length c8] rfl (ones5 rfl rfl rfl rfl rfl) 1 _ (by simp) rfl (by have := HVl.out; simp only [maxLen]; omega) (by have := HVl.out; omega) (below_then hBq hb7b) (below_then hBq hb7b).size ?_); intro v4 w4 hown4 hB4 hg4 _))
                    have HRow := hid (row_step (e := y) hb7b HO.out HRel.out hBq.size ((HOk.out.mono hbb.size).below hba) ((HOv.out.mono hbb.size).below hba) hg4)
                    go_roundw
                    case rel => exact ⟨k + 1, some (eKey x), _, os ++ [y], by omega, by go_num, rfl, fun h => absurd h (by omega), (fun _ h => by cases h), by rw [HW1.out, HTk.out]; simp, by have := HVl.out; simp; omega, hown4, by have := HRow.out; rwa [hgn] at this, hB4⟩
                    case measure => simp [intOf]; omega
                  · have HGt2 := HGt
                    unfold GetC at HGt2
                    rw [hgn] at HGt2
                    have HN := hid (fun w3 hb => HJ.out.same (w3 := w3) (HNo.out HNs.out y true HYb.out (fun h => by rw [hgn] at h; cases h.2)) hb)
                    go_wp2_with (go_at_call 12; (with_reducible refine HGt2.out.mono ?_); rintro r w7 ⟨kv, vv, rfl, hk7, hv7, hb7⟩; have HOk := hid hk7; have HOv := hid hv7; obtain ⟨A7, c7, hkve, _, _⟩ := hk7.open_; obtain ⟨A8, c8, hvve, _, _⟩ := hv7.open_; subst hkve hvve; have hb7' := below_then hbb hb7; have hba := below_alloc' (Below.refl w7.heap.size w7) (.cells #[.slice A7 (eKey y).length c7, .int .i64 (eSeq y), .bool true, .int .i64 (eTil y), .slice A8 (eVal y).length c8] 28); have hb7b := below_then hb7' hba; clear hk7 hv7)
                    go_roundw
                    case rel => exact ⟨k + 1, some (eKey x), V, os, by omega, by go_num, rfl, fun h => absurd h (by omega), (fun _ h => by cases h), HN.out _ hb7b⟩
                    case measure => simp [intOf]; omega
          · obtain rfl : k = m := by omega
            obtain ⟨h1, h2, h3, h4, h5⟩ := hJ
            rw [List.drop_eq_nil_of_le (by rw [HM.out]; exact Nat.le_refl _)] at h1
            simp only [wantF, List.append_nil] at h1
            have hol : os.length ≤ 60 := by have := h4.1; have := HM.out; omega
            have HP5 := hid (HP4.out _ hBw)
            rw [h1] at HP5
            obtain ⟨A5, c5, hve, _, hre⟩ := REnts_of h3 (h4.mono fun x a hx => hx.reads) (by omega)
            subst hve
            have HRe := hid hre
            clear hre h1 h3 h4 HJ HP4 HG
            go_wp2_with (first
              | (go_at_call 27; (with_reducible refine HP5.out.mono ?_); rintro r w7 hl7; obtain ⟨A7, c7, V7, rfl, hv7, hr7, hre7, hb7⟩ := hl7.rowP (by omega); have HRe7 := hid hre7; have HRe8 := hid (HRe.out.below hb7); have hB7 := below_then hB0 hb7; clear hv7 hr7 hre7 hl7)
              | (go_at_call 20; (with_reducible refine (sameentries_any A7 c7 A5 c5 os.length os w7 HRe7.out HRe8.out).mono ?_); rintro r w8 ⟨rfl, hb8⟩; have hB8 := below_then hB7 hb8)
              | (go_at_call 15; (with_reducible refine (awake_any _ (HT.out.below hB8)).mono ?_); rintro r w9 ⟨rfl, hb9⟩; have hB9 := below_then hB8 hb9))
            go_ret
            exact ⟨rfl, hB9⟩
      · have hd2 : decide ((k : Int) < (n : Int)) = false := decide_eq_false (by omega)
        clear hlt
        go_wp2_with (go_at_call 21; (with_reducible refine (HP3.out _ (Below.refl _ _)).mono ?_); rintro r wA hl3; obtain ⟨A1, c1, V1, rfl, hv1, hr1, hre1, hbA⟩ := hl3.rowP (by omega); have HRe1 := hid hre1; clear hv1 hr1 hre1 hl3)
        obtain ⟨m, hm0⟩ : ∃ m, La.length = m := ⟨_, rfl⟩
        rw [hm0]
        have HM := hid hm0
        clear hm0 HP3
        go_loopw [7, 8, 40] (fun v ls i wr => ∃ (k : Nat) (last : Option (List UInt8)) (V : List (List Value)) (os : List EntR), k ≤ m ∧ i = .int .i64 k ∧ ls = .string (bstr (last.getD [])) ∧ (k = 0 → last = none) ∧ (0 < k → last ≠ none) ∧ WantJ s La wA wr k v last V os) (fun v ls i wr => m - (intOf i).toNat)
        case atStart => exact ⟨0, none, [], [], Nat.zero_le _, rfl, rfl, fun _ => rfl, fun h => absurd h (by omega), rfl, Nat.le_refl _, OV.nil _ _ _ _, RelV.nil, Below.refl _ _⟩
        case round =>
          obtain ⟨k, last, V, os, hk, rfl, rfl, hk0, hk1, hJ⟩ := hrel
          have hBq := hJ.2.2.2.2
          have hBw := below_then hbA hBq
          have hB0 := below_then HBw.out hBw
          have HJ := hid hJ
          by_cases hlt : k < m
          · have hkl : k < La.length := by rw [HM.out]; exact hlt
            obtain ⟨ad, hA1, hc1⟩ := HRe1.out.at_ hkl
            subst hA1
            obtain ⟨Ak, nk, ck, Av, nv, cv, a0, a1, a2, a3, a4, a5, a6, a7, a8⟩ := hc1
            have a0 := below_cell hBq a0
            have a1 := below_cell hBq a1
            have a2 := below_cell hBq a2
            have a3 := below_cell hBq a3
            have a4 := below_cell hBq a4
            have HSk := hid (fun h => wantF_skip (s := s) (es := La) (last := last) hkl h)
            have HYe := hid (fun h y hg hn => wantF_yes (s := s) (es := La) (last := last) hkl h (y := y) hg hn)
            have HNo := hid (fun h y b hg hn => wantF_no (s := s) (es := La) (last := last) hkl h (y := y) (b := b) hg hn)
            generalize elt noEnt La k = x at *
            have hbx := heap_alloc_new wr (.cells #[.slice Ak nk ck, .int .i64 (eSeq x), .bool (eGone x), .int .i64 (eTil x), .slice Av nv cv] 28)
            have hbb : Below wr.heap.size wr (wr.alloc (.cells #[.slice Ak nk ck, .int .i64 (eSeq x), .bool (eGone x), .int .i64 (eTil x), .slice Av nv cv] 28)) := below_alloc' (Below.refl _ _) _
            have hkb := a5.below (below_then hBq hbb)
            have cv1 := RB.conv hkb ck
            have HKb := hid hkb
            have HStr := hid (fun q => decide_str (eKey x) q)
            have HRes : Hid (∀ y b, getR (eKey x) s La = (y, b) → Calls Tryd.prog 12 #[.pointer (some ⟨bm, 0, none⟩), .slice Ak nk ck, .int .i64 s] (wr.alloc (.cells #[.slice Ak nk ck, .int .i64 (eSeq x), .bool (eGone x), .int .i64 (eTil x), .slice Av nv cv] 28)) fun r w' => GetC (wr.alloc (.cells #[.slice Ak nk ck, .int .i64 (eSeq x), .bool (eGone x), .int .i64 (eTil x), .slice Av nv cv] 28)) w' y b r) := fun y b hyb => by
              have := HG.out _ Ak nk ck (eKey x) (below_then hBw hbb) HKb.out
              rw [hyb] at this
              exact this
            clear a5 a6 hJ hkb
            by_cases hsk : last = some (eKey x)
            · have hkp : 0 < k := Nat.pos_of_ne_zero (fun h => by rw [hk0 h] at hsk; cases hsk)
              have hd3 : decide (0 < k) = true := decide_eq_true (by omega)
              have hg : last.getD [] = eKey x := by rw [hsk]; rfl
              have hs1 : ((bstr (eKey x)).toList == (bstr (last.getD [])).toList) = true := by rw [HStr.out, hg]; exact decide_eq_true rfl
              have HN := hid (HJ.out.same (HSk.out hsk) hbb)
              have HLn := hid hk1
              clear hsk hg HSk HYe HNo HRes hk0 hk1
              go_wp2
              go_roundw
              case rel => exact ⟨k + 1, last, V, os, by omega, by go_num, rfl, fun h => absurd h (by omega), fun _ => HLn.out hkp, HN.out⟩
              case measure => simp [intOf]; omega
            · have HNs := hid hsk
              have hskip : ∀ (hd3 : decide (0 < k) = true), ((bstr (eKey x)).toList == (bstr (last.getD [])).toList) = false := fun hd3 => by
                have hkp : 0 < k := by have := of_decide_eq_true hd3; omega
                rw [HStr.out]
                refine decide_eq_false fun e => hsk ?_
                cases last with
                | none => exact absurd rfl (hk1 hkp)
                | some q => rw [e]; rfl
              obtain ⟨y, b, hyb⟩ : ∃ y b, getR (eKey x) s La = (y, b) := ⟨_, _, rfl⟩
              have HGt := hid (HRes.out y b hyb)
              have HYb := hid hyb
              have HO := hid HJ.out.2.2.1
              have HVl := hid HJ.out.2.1
              have HRel := hid HJ.out.2.2.2.1
              have HW1 := hid HJ.out.1
              clear hyb HRes hsk hk0 hk1
              rcases Nat.eq_zero_or_pos k with hkz | hkz
              · have hd3 : decide (0 < k) = false := decide_eq_false (by omega)
                clear hskip hkz
                cases b
                · have HN := hid (fun w3 hb => HJ.out.same (w3 := w3) (HNo.out HNs.out y false HYb.out (fun h => by cases h.1)) hb)
                  go_wp2_with (go_at_call 12; (with_reducible refine HGt.out.mono ?_); rintro r w7 ⟨kv, vv, rfl, hk7, hv7, hb7⟩; have HOk := hid hk7; have HOv := hid hv7; obtain ⟨A7, c7, hkve, _, _⟩ := hk7.open_; obtain ⟨A8, c8, hvve, _, _⟩ := hv7.open_; subst hkve hvve; have hb7' := below_then hbb hb7; have hba := below_alloc' (Below.refl w7.heap.size w7) (.cells #[.slice A7 (eKey y).length c7, .int .i64 (eSeq y), .bool (eGone y), .int .i64 (eTil y), .slice A8 (eVal y).length c8] 28); have hb7b := below_then hb7' hba; clear hk7 hv7)
                  go_roundw
                  case rel => exact ⟨k + 1, some (eKey x), V, os, by omega, by go_num, rfl, fun h => absurd h (by omega), (fun _ h => by cases h), HN.out _ hb7b⟩
                  case measure => simp [intOf]; omega
                · cases hgn : eGone y
                  · have HTk := hid (HYe.out HNs.out y HYb.out hgn)
                    have HGt2 := HGt
                    unfold GetC at HGt2
                    rw [hgn] at HGt2
                    go_wp2_with (first
                      | (go_at_call 12; (with_reducible refine HGt2.out.mono ?_); rintro r w7 ⟨kv, vv, rfl, hk7, hv7, hb7⟩; have HOk := hid hk7; have HOv := hid hv7; obtain ⟨A7, c7, hkve, _, _⟩ := hk7.open_; obtain ⟨A8, c8, hvve, _, _⟩ := hv7.open_; subst hkve hvve; have hb7' := below_then hbb hb7; have hba := below_alloc' (Below.refl w7.heap.size w7) (.cells #[.slice A7 (eKey y).length c7, .int .i64 (eSeq y), .bool false, .int .i64 (eTil y), .slice A8 (eVal y).length c8] 28); have hb7b := below_then hb7' hba; clear hk7 hv7)
                      | (at_builtin; go_loud (refine wpV_append1 22 28 _ 5 72 Tryd.underlying22 eninfo rfl (by omega) wA _ wA.heap.size rfl (.tmp 71) (.tmp 73) rfl u7 V rfl (HO.out.below hb7b) #[.slice A7 (eKey y).length c7, .int .i64 (eSeq y), .bool false, .int .i64 (eTil y), .slice A8 (eVal y).length c8] rfl (ones5 rfl rfl rfl rfl rfl) 1 _ (by simp) rfl (by have := HVl.out; simp only [maxLen]; omega) (by have := HVl.out; omega) (below_then hBq hb7b) (below_then hBq hb7b).size ?_); intro v4 w4 hown4 hB4 hg4 _))
                    have HRow := hid (row_step (e := y) hb7b HO.out HRel.out hBq.size ((HOk.out.mono hbb.size).below hba) ((HOv.out.mono hbb.size).below hba) hg4)
                    go_roundw
                    case rel => exact ⟨k + 1, some (eKey x), _, os ++ [y], by omega, by go_num, rfl, fun h => absurd h (by omega), (fun _ h => by cases h), by rw [HW1.out, HTk.out]; simp, by have := HVl.out; simp; omega, hown4, by have := HRow.out; rwa [hgn] at this, hB4⟩
                    case measure => simp [intOf]; omega
                  · have HGt2 := HGt
                    unfold GetC at HGt2
                    rw [hgn] at HGt2
                    have HN := hid (fun w3 hb => HJ.out.same (w3 := w3) (HNo.out HNs.out y true HYb.out (fun h => by rw [hgn] at h; cases h.2)) hb)
                    go_wp2_with (go_at_call 12; (with_reducible refine HGt2.out.mono ?_); rintro r w7 ⟨kv, vv, rfl, hk7, hv7, hb7⟩; have HOk := hid hk7; have HOv := hid hv7; obtain ⟨A7, c7, hkve, _, _⟩ := hk7.open_; obtain ⟨A8, c8, hvve, _, _⟩ := hv7.open_; subst hkve hvve; have hb7' := below_then hbb hb7; have hba := below_alloc' (Below.refl w7.heap.size w7) (.cells #[.slice A7 (eKey y).length c7, .int .i64 (eSeq y), .bool true, .int .i64 (eTil y), .slice A8 (eVal y).length c8] 28); have hb7b := below_then hb7' hba; clear hk7 hv7)
                    go_roundw
                    case rel => exact ⟨k + 1, some (eKey x), V, os, by omega, by go_num, rfl, fun h => absurd h (by omega), (fun _ h => by cases h), HN.out _ hb7b⟩
                    case measure => simp [intOf]; omega
              · have hd3 : decide (0 < k) = true := decide_eq_true (by omega)
                have hs1 := hskip hd3
                clear hskip hkz
                cases b
                · have HN := hid (fun w3 hb => HJ.out.same (w3 := w3) (HNo.out HNs.out y false HYb.out (fun h => by cases h.1)) hb)
                  go_wp2_with (go_at_call 12; (with_reducible refine HGt.out.mono ?_); rintro r w7 ⟨kv, vv, rfl, hk7, hv7, hb7⟩; have HOk := hid hk7; have HOv := hid hv7; obtain ⟨A7, c7, hkve, _, _⟩ := hk7.open_; obtain ⟨A8, c8, hvve, _, _⟩ := hv7.open_; subst hkve hvve; have hb7' := below_then hbb hb7; have hba := below_alloc' (Below.refl w7.heap.size w7) (.cells #[.slice A7 (eKey y).length c7, .int .i64 (eSeq y), .bool (eGone y), .int .i64 (eTil y), .slice A8 (eVal y).length c8] 28); have hb7b := below_then hb7' hba; clear hk7 hv7)
                  go_roundw
                  case rel => exact ⟨k + 1, some (eKey x), V, os, by omega, by go_num, rfl, fun h => absurd h (by omega), (fun _ h => by cases h), HN.out _ hb7b⟩
                  case measure => simp [intOf]; omega
                · cases hgn : eGone y
                  · have HTk := hid (HYe.out HNs.out y HYb.out hgn)
                    have HGt2 := HGt
                    unfold GetC at HGt2
                    rw [hgn] at HGt2
                    go_wp2_with (first
                      | (go_at_call 12; (with_reducible refine HGt2.out.mono ?_); rintro r w7 ⟨kv, vv, rfl, hk7, hv7, hb7⟩; have HOk := hid hk7; have HOv := hid hv7; obtain ⟨A7, c7, hkve, _, _⟩ := hk7.open_; obtain ⟨A8, c8, hvve, _, _⟩ := hv7.open_; subst hkve hvve; have hb7' := below_then hbb hb7; have hba := below_alloc' (Below.refl w7.heap.size w7) (.cells #[.slice A7 (eKey y).length c7, .int .i64 (eSeq y), .bool false, .int .i64 (eTil y), .slice A8 (eVal y).length c8] 28); have hb7b := below_then hb7' hba; clear hk7 hv7)
                      | (at_builtin; go_loud (refine wpV_append1 22 28 _ 5 72 Tryd.underlying22 eninfo rfl (by omega) wA _ wA.heap.size rfl (.tmp 71) (.tmp 73) rfl u7 V rfl (HO.out.below hb7b) #[.slice A7 (eKey y).length c7, .int .i64 (eSeq y), .bool false, .int .i64 (eTil y), .slice A8 (eVal y).length c8] rfl (ones5 rfl rfl rfl rfl rfl) 1 _ (by simp) rfl (by have := HVl.out; simp only [maxLen]; omega) (by have := HVl.out; omega) (below_then hBq hb7b) (below_then hBq hb7b).size ?_); intro v4 w4 hown4 hB4 hg4 _))
                    have HRow := hid (row_step (e := y) hb7b HO.out HRel.out hBq.size ((HOk.out.mono hbb.size).below hba) ((HOv.out.mono hbb.size).below hba) hg4)
                    go_roundw
                    case rel => exact ⟨k + 1, some (eKey x), _, os ++ [y], by omega, by go_num, rfl, fun h => absurd h (by omega), (fun _ h => by cases h), by rw [HW1.out, HTk.out]; simp, by have := HVl.out; simp; omega, hown4, by have := HRow.out; rwa [hgn] at this, hB4⟩
                    case measure => simp [intOf]; omega
                  · have HGt2 := HGt
                    unfold GetC at HGt2
                    rw [hgn] at HGt2
                    have HN := hid (fun w3 hb => HJ.out.same (w3 := w3) (HNo.out HNs.out y true HYb.out (fun h => by rw [hgn] at h; cases h.2)) hb)
                    go_wp2_with (go_at_call 12; (with_reducible refine HGt2.out.mono ?_); rintro r w7 ⟨kv, vv, rfl, hk7, hv7, hb7⟩; have HOk := hid hk7; have HOv := hid hv7; obtain ⟨A7, c7, hkve, _, _⟩ := hk7.open_; obtain ⟨A8, c8, hvve, _, _⟩ := hv7.open_; subst hkve hvve; have hb7' := below_then hbb hb7; have hba := below_alloc' (Below.refl w7.heap.size w7) (.cells #[.slice A7 (eKey y).length c7, .int .i64 (eSeq y), .bool true, .int .i64 (eTil y), .slice A8 (eVal y).length c8] 28); have hb7b := below_then hb7' hba; clear hk7 hv7)
                    go_roundw
                    case rel => exact ⟨k + 1, some (eKey x), V, os, by omega, by go_num, rfl, fun h => absurd h (by omega), (fun _ h => by cases h), HN.out _ hb7b⟩
                    case measure => simp [intOf]; omega
          · obtain rfl : k = m := by omega
            obtain ⟨h1, h2, h3, h4, h5⟩ := hJ
            rw [List.drop_eq_nil_of_le (by rw [HM.out]; exact Nat.le_refl _)] at h1
            simp only [wantF, List.append_nil] at h1
            have hol : os.length ≤ 60 := by have := h4.1; have := HM.out; omega
            have HP5 := hid (HP4.out _ hBw)
            rw [h1] at HP5
            obtain ⟨A5, c5, hve, _, hre⟩ := REnts_of h3 (h4.mono fun x a hx => hx.reads) (by omega)
            subst hve
            have HRe := hid hre
            clear hre h1 h3 h4 HJ HP4 HG
            go_wp2_with (first
              | (go_at_call 27; (with_reducible refine HP5.out.mono ?_); rintro r w7 hl7; obtain ⟨A7, c7, V7, rfl, hv7, hr7, hre7, hb7⟩ := hl7.rowP (by omega); have HRe7 := hid hre7; have HRe8 := hid (HRe.out.below hb7); have hB7 := below_then hB0 hb7; clear hv7 hr7 hre7 hl7)
              | (go_at_call 20; (with_reducible refine (sameentries_any A7 c7 A5 c5 os.length os w7 HRe7.out HRe8.out).mono ?_); rintro r w8 ⟨rfl, hb8⟩; have hB8 := below_then hB7 hb8)
              | (go_at_call 15; (with_reducible refine (awake_any _ (HT.out.below hB8)).mono ?_); rintro r w9 ⟨rfl, hb9⟩; have hB9 := below_then hB8 hb9))
            go_ret
            exact ⟨rfl, hB9⟩
end Go.Proofs.YtlfjbklagljdlaaDoor
