/- The document's List, Seen, Latest over rows of entries. -/
import Derived.Test.YtlfjbklagljdlaaDoorMmX
namespace Go.Proofs.YtlfjbklagljdlaaDoor
open Go.RowKit
set_option linter.unusedVariables false
set_option linter.unusedSimpArgs false

/-- Where a loop stands that makes a row out of a row: what the whole makes, what the rest makes. -/
def RowJ (w wr : World) (whole rest : List EntR) (v : Value) (k : Nat) (os : List EntR) : Prop :=
  ∃ V, whole = os ++ rest ∧ V.length ≤ k ∧ OV wr w.heap.size 28 5 v V ∧ RelV noEnt (PER w) V os ∧ Below w.heap.size w wr
/-- What a function that makes a row out of a row leaves. -/
def RowC (w w' : World) (es : List EntR) (r : Ending) : Prop := ∃ v V, r = .returned v ∧ OV w' w.heap.size 28 5 v V ∧ RelV noEnt (PER w') V es ∧ Below w.heap.size w w'
theorem RowJ.done {w wr : World} {whole : List EntR} {v : Value} {k : Nat} {os : List EntR} (h : RowJ w wr whole [] v k os) : RowC w wr whole (.returned v) := by
  obtain ⟨V, h1, h2, h3, h4, h5⟩ := h
  rw [List.append_nil] at h1
  subst h1
  exact ⟨v, V, rfl, h3, h4.mono fun x a hx => hx.below h5, h5⟩
theorem RowJ.skip {w wr w3 : World} {whole rest : List EntR} {v : Value} {k : Nat} {os : List EntR} (h : RowJ w wr whole rest v k os) (hb : Below wr.heap.size wr w3) : RowJ w w3 whole rest v (k + 1) os := by
  obtain ⟨V, h1, h2, h3, h4, h5⟩ := h
  exact ⟨V, h1, by omega, h3.below hb, h4, below_then h5 hb⟩
theorem RowJ.take {w w4 : World} {whole rest : List EntR} {v' : Value} {k : Nat} {os : List EntR} {x : EntR} {cs : List Value} {V : List (List Value)} (h1 : whole = os ++ x :: rest) (h2 : V.length ≤ k) (h4 : RelV noEnt (PER w) V os) (hp : PER w cs x) (hown : OV w4 w.heap.size 28 5 v' (V ++ [cs])) (hB : Below w.heap.size w w4) : RowJ w w4 whole rest v' (k + 1) (os ++ [x]) :=
  ⟨V ++ [cs], by rw [h1]; simp, by simp; omega, hown, h4.snoc hp, hB⟩
def passL (frm tk : List UInt8) (x : EntR) : Bool := decide (0 ≤ cmpB (eKey x) frm) && (decide (tk = []) || decide (cmpB (eKey x) tk < 0))
def listR (frm tk : List UInt8) (es : List EntR) : List EntR := es.filter (passL frm tk)
theorem filt_yes {p : EntR → Bool} {es : List EntR} {k : Nat} (h : k < es.length) (hp : p (elt noEnt es k) = true) : (es.drop k).filter p = elt noEnt es k :: (es.drop (k + 1)).filter p := by rw [drop_elt h, List.filter_cons, if_pos hp]
theorem filt_no {p : EntR → Bool} {es : List EntR} {k : Nat} (h : k < es.length) (hp : p (elt noEnt es k) = false) : (es.drop k).filter p = (es.drop (k + 1)).filter p := by rw [drop_elt h, List.filter_cons, if_neg (by simp [hp])]
set_option maxHeartbeats 32000000 in
set_option maxRecDepth 100000 in
theorem reflist_any (A : Option Addr) (n c : Nat) (es : List EntR) (Ar : Option Addr) (nr cr : Nat) (frm : List UInt8) (At : Option Addr) (nt ct : Nat) (tk : List UInt8) (w : World) (h : REnts w A n es) (hf : RB w Ar nr frm) (ht : RB w At nt tk) (hn : n ≤ 1000000) :
    Calls Tryd.prog 26 #[.slice A n c, .slice Ar nr cr, .slice At nt ct] w fun r w' => RowC w w' (listR frm tk es) r := by
  have hl := h.1
  have htl := ht.1
  have htm := ht.2.1
  have H := hid h
  have HF := hid hf
  have HT := hid ht
  have HL := hid hl
  clear h hf ht hl
  go_enter Tryd.func26, Tryd.ntmps26
  go_wp2
  go_loopw [7, 12] (fun v i wr => ∃ (k : Nat) (os : List EntR), k ≤ n ∧ i = .int .i64 k ∧ RowJ w wr (listR frm tk es) (listR frm tk (es.drop k)) v k os) (fun v i wr => n - (intOf i).toNat)
  case atStart => exact ⟨0, [], Nat.zero_le _, rfl, [], rfl, Nat.le_refl _, OV.nil _ _ _ _, RelV.nil, Below.refl _ _⟩
  case round =>
    obtain ⟨k, os, hk, rfl, hJ⟩ := hrel
    by_cases hlt : k < n
    · have hJ0 := hJ
      obtain ⟨V, hw1, hVl, hown, hrelv, hBr⟩ := hJ0
      obtain ⟨ad, rfl, hc1⟩ := H.out.at_ hlt
      obtain ⟨Ak, nk, ck, Av, nv, cv, a0, a1, a2, a3, a4, a5, a6, a7, a8⟩ := hc1
      have a0 := below_cell hBr a0
      have a1 := below_cell hBr a1
      have a2 := below_cell hBr a2
      have a3 := below_cell hBr a3
      have a4 := below_cell hBr a4
      have hkl : k < es.length := by rw [HL.out]; exact hlt
      have HY := hid (filt_yes (p := passL frm tk) hkl)
      have HNo := hid (filt_no (p := passL frm tk) hkl)
      generalize elt noEnt es k = x at *
      have HP : Hid (PER w [.slice Ak nk ck, .int .i64 (eSeq x), .bool (eGone x), .int .i64 (eTil x), .slice Av nv cv] x) := ⟨Ak, nk, ck, Av, nv, cv, rfl, a5, a6, a7, a8⟩
      have HJ := hid hJ
      have HV := hid hVl
      have HO := hid hown
      have HW1 := hid hw1
      have HR := hid hrelv
      have hbn := heap_alloc_new wr (.cells #[.slice Ak nk ck, .int .i64 (eSeq x), .bool (eGone x), .int .i64 (eTil x), .slice Av nv cv] 28)
      have hbb : Below wr.heap.size wr (wr.alloc (.cells #[.slice Ak nk ck, .int .i64 (eSeq x), .bool (eGone x), .int .i64 (eTil x), .slice Av nv cv] 28)) := below_alloc' (Below.refl _ _) _
      have hBb := below_then hBr hbb
      have HX := hid (a5.below hBb)
      have HFb := hid (HF.out.below hBb)
      obtain ⟨C, hC⟩ : ∃ C, cmpB (eKey x) frm = C := ⟨_, rfl⟩
      obtain ⟨D, hD⟩ : ∃ D, cmpB (eKey x) tk = D := ⟨_, rfl⟩
      have hpass : passL frm tk x = (decide (0 ≤ C) && (decide (tk = []) || decide (D < 0))) := by unfold passL; rw [hC, hD]
      have HPa := hid hpass
      have HC := hid hC
      have HD := hid hD
      clear a5 a6 a7 a8 hJ hVl hw1 hrelv hC hD hpass hown
      by_cases h0 : 0 ≤ C
      · have hd0 : decide (0 ≤ C) = true := decide_eq_true h0
        have hge : C ≥ 0 := h0
        rcases Nat.eq_zero_or_pos nt with hn0 | hn0
        · have hb0 : ((nt : Int) == 0) = true := by rw [beq_iff_eq]; omega
          have htk : tk = [] := List.eq_nil_of_length_eq_zero (by omega)
          have hyes : passL frm tk x = true := by rw [HPa.out, hd0]; simp [htk]
          have HYes := hid (HY.out hyes)
          clear hyes htk hn0
          go_wp2_with (first
            | (go_at_call 35; (with_reducible refine (refcompare_any Ak nk ck (eKey x) Ar nr cr frm _ HX.out HFb.out).mono ?_); rintro r w3 ⟨rfl, hb3⟩; rw [HC.out]; have hB3 := below_then hBb hb3; have hbn3 := blk_below hb3 hbn; have n0 := box_at hbn3 0 (.slice Ak nk ck) rfl; have n1 := box_at hbn3 1 (.int .i64 (eSeq x)) rfl; have n2 := box_at hbn3 2 (.bool (eGone x)) rfl; have n3 := box_at hbn3 3 (.int .i64 (eTil x)) rfl; have n4 := box_at hbn3 4 (.slice Av nv cv) rfl)
            | (at_builtin; go_loud (refine wpV_append1 22 28 _ 5 72 Tryd.underlying22 eninfo rfl (by omega) w _ w.heap.size rfl (.tmp 33) (.tmp 35) rfl u7 V rfl (HO.out.below (below_then hbb hb3)) #[.slice Ak nk ck, .int .i64 (eSeq x), .bool (eGone x), .int .i64 (eTil x), .slice Av nv cv] rfl (ones5 rfl rfl rfl rfl rfl) 1 _ rfl rfl (by have := HV.out; simp only [maxLen]; omega) (by have := HV.out; omega) hB3 hB3.size ?_); intro v4 w4 hown4 hB4 hg4 _))
          go_roundw
          case rel => exact ⟨k + 1, os ++ [x], by omega, by go_num, RowJ.take (by rw [HW1.out, listR, HYes.out]; rfl) HV.out HR.out HP.out hown4 hB4⟩
          case measure => simp [intOf]; omega
        · have hb0 : ((nt : Int) == 0) = false := by rw [beq_eq_false_iff_ne]; omega
          have htk : tk ≠ [] := by intro e; rw [e] at htl; simp at htl; omega
          by_cases h1 : D < 0
          · have hyes : passL frm tk x = true := by rw [HPa.out, hd0]; simp [h1]
            have HYes := hid (HY.out hyes)
            have hd1 : decide (D < 0) = true := decide_eq_true h1
            clear hyes htk hn0
            go_wp2_with (first
              | (go_at_call 35; (with_reducible refine (refcompare_any Ak nk ck (eKey x) Ar nr cr frm _ HX.out HFb.out).mono ?_); rintro r w3 ⟨rfl, hb3⟩; rw [HC.out]; have hB3 := below_then hBb hb3; have hbn3 := blk_below hb3 hbn; have n0 := box_at hbn3 0 (.slice Ak nk ck) rfl; have HX3 := hid (HX.out.below hb3); have HT3 := hid (HT.out.below hB3))
              | (go_at_call 35; (with_reducible refine (refcompare_any Ak nk ck (eKey x) At nt ct tk _ HX3.out HT3.out).mono ?_); rintro r w5 ⟨rfl, hb5⟩; rw [HD.out]; have hB5 := below_then hB3 hb5; have hbn5 := blk_below hb5 hbn3; have m0 := box_at hbn5 0 (.slice Ak nk ck) rfl; have n1 := box_at hbn5 1 (.int .i64 (eSeq x)) rfl; have n2 := box_at hbn5 2 (.bool (eGone x)) rfl; have n3 := box_at hbn5 3 (.int .i64 (eTil x)) rfl; have n4 := box_at hbn5 4 (.slice Av nv cv) rfl)
              | (at_builtin; go_loud (refine wpV_append1 22 28 _ 5 72 Tryd.underlying22 eninfo rfl (by omega) w _ w.heap.size rfl (.tmp 33) (.tmp 35) rfl u7 V rfl (HO.out.below (below_then (below_then hbb hb3) hb5)) #[.slice Ak nk ck, .int .i64 (eSeq x), .bool (eGone x), .int .i64 (eTil x), .slice Av nv cv] rfl (ones5 rfl rfl rfl rfl rfl) 1 _ rfl rfl (by have := HV.out; simp only [maxLen]; omega) (by have := HV.out; omega) hB5 hB5.size ?_); intro v4 w4 hown4 hB4 hg4 _))
            go_roundw
            case rel => exact ⟨k + 1, os ++ [x], by omega, by go_num, RowJ.take (by rw [HW1.out, listR, HYes.out]; rfl) HV.out HR.out HP.out hown4 hB4⟩
            case measure => simp [intOf]; omega
          · have hno : passL frm tk x = false := by rw [HPa.out, hd0]; simp [htk]; omega
            have HNO := hid (HNo.out hno)
            have hd1 : decide (D < 0) = false := decide_eq_false h1
            clear hno htk hn0
            go_wp2_with (first
              | (go_at_call 35; (with_reducible refine (refcompare_any Ak nk ck (eKey x) Ar nr cr frm _ HX.out HFb.out).mono ?_); rintro r w3 ⟨rfl, hb3⟩; rw [HC.out]; have hB3 := below_then hBb hb3; have hbn3 := blk_below hb3 hbn; have n0 := box_at hbn3 0 (.slice Ak nk ck) rfl; have HX3 := hid (HX.out.below hb3); have HT3 := hid (HT.out.below hB3))
              | (go_at_call 35; (with_reducible refine (refcompare_any Ak nk ck (eKey x) At nt ct tk _ HX3.out HT3.out).mono ?_); rintro r w5 ⟨rfl, hb5⟩; rw [HD.out]; have hB5 := below_then hB3 hb5))
            go_roundw
            case rel => exact ⟨k + 1, os, by omega, by go_num, by have h := HJ.out.skip (below_then (below_then hbb hb3) hb5); rwa [listR, listR, HNO.out] at h⟩
            case measure => simp [intOf]; omega
      · have hd0 : decide (0 ≤ C) = false := decide_eq_false h0
        have hno : passL frm tk x = false := by rw [HPa.out, hd0]; rfl
        have HNO := hid (HNo.out hno)
        clear hno
        go_wp2_with (go_at_call 35; (with_reducible refine (refcompare_any Ak nk ck (eKey x) Ar nr cr frm _ HX.out HFb.out).mono ?_); rintro r w3 ⟨rfl, hb3⟩; rw [HC.out]; have hB3 := below_then hBb hb3)
        go_roundw
        case rel => exact ⟨k + 1, os, by omega, by go_num, by have h := HJ.out.skip (below_then hbb hb3); rwa [listR, listR, HNO.out] at h⟩
        case measure => simp [intOf]; omega
    · obtain rfl : k = n := by omega
      have HJ := hid hJ
      clear hJ
      go_wp2
      go_ret
      have h := HJ.out
      rw [List.drop_eq_nil_of_le (by rw [HL.out]; exact Nat.le_refl _)] at h
      exact RowJ.done h
end Go.Proofs.YtlfjbklagljdlaaDoor
