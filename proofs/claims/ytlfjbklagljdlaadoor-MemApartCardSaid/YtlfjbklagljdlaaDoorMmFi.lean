/- Layer 9's laws: filled: the program's mem and the document's row side by side. -/
import Derived.Test.YtlfjbklagljdlaaDoorMmAw
namespace Go.Proofs.YtlfjbklagljdlaaDoor
open Go.RowKit
set_option linter.unusedVariables false
set_option linter.unusedSimpArgs false

/-- A mem and the document's row of the same entries. -/
def FillJ (w wr : World) (bm : Nat) (v : Value) (m : Nat) (l : List NodeR) : Prop :=
  MemL wr w.heap.size bm l ∧ (∃ V, OV wr w.heap.size 28 5 v V ∧ RelV noEnt (PER w) V (l.map nEnt)) ∧ l.length ≤ m ∧ Below w.heap.size w wr
/-- What filled leaves. -/
def FillC (w w' : World) (r : Ending) : Prop := ∃ bm v l, r = .returned (.tuple #[.pointer (some ⟨bm, 0, none⟩), v, .bool true]) ∧ FillJ w w' bm v 80 l
theorem FillJ.below {w wr w3 : World} {bm m : Nat} {v : Value} {l : List NodeR} (h : FillJ w wr bm v m l) (hb : Below wr.heap.size wr w3) : FillJ w w3 bm v m l := by
  obtain ⟨h1, ⟨V, h2, h3⟩, h4, h5⟩ := h
  exact ⟨h1.below hb, ⟨V, h2.below hb, h3⟩, h4, below_then h5 hb⟩
theorem FillJ.len {w wr : World} {bm m m' : Nat} {v : Value} {l : List NodeR} (h : FillJ w wr bm v m l) (hm : m ≤ m') : FillJ w wr bm v m' l := by
  obtain ⟨h1, h2, h4, h5⟩ := h
  exact ⟨h1, h2, by omega, h5⟩
theorem nomay_add {es : List EntR} {x : EntR} (h : mayE x = false) : addE es x = es ∧ addR es x = 1 := by unfold addE addR; simp [h]
theorem has_add {es : List EntR} {x : EntR} (h : mayE x = true) (hh : hasE es x = true) : putE es x = es ∧ addE es x = es ∧ addR es x = 6 := by unfold addE addR putE; simp [h, hh]
theorem new_add {es : List EntR} {x : EntR} (h : mayE x = true) (hh : hasE es x = false) : addE es x = putE es x ∧ addR es x = 0 ∧ (putE es x).length = es.length + 1 := by
  refine ⟨by unfold addE; simp [h], by unfold addR; simp [h, hh], ?_⟩
  unfold putE
  rw [hh]
  have := congrArg List.length (pre_suf (eKey x) (eSeq x) es)
  rw [List.length_append] at this
  simp only [Bool.false_eq_true, if_false, insE, List.length_append, List.length_cons]
  omega
/-- Behind Put, May and Add. -/
theorem FillJ.step {w w5 w7 : World} {bm m : Nat} {v : Value} {V : List (List Value)} {l : List NodeR} {x : EntR} {es' : List EntR} (hM : MemL w5 w.heap.size bm l) (hA : AddO w5 w7 w.heap.size bm l x) (hv : OV w5 w.heap.size 28 5 v V) (hr : RelV noEnt (PER w) V es') (he : addE (l.map nEnt) x = es') (hlen : es'.length ≤ m) (hB : Below w.heap.size w w5) : ∃ l', FillJ w w7 bm v m l' := by
  obtain ⟨l', h1, h2, h3, h4, h5⟩ := hA
  refine ⟨l', h1, ⟨V, KB.ov h3 hM.sl hv (by decide) (by decide), by rw [h2, he]; exact hr⟩, ?_, hB.trans h4⟩
  rw [← List.length_map (f := nEnt), h2, he]
  exact hlen
set_option maxHeartbeats 64000000 in
set_option maxRecDepth 100000 in
theorem filled_any (A : Option Addr) (n c : Nat) (es : List EntR) (w : World) (h : REnts w A n es) (hT : TabOK w) :
    Calls Tryd.prog 11 #[.slice A n c] w fun r w' => FillC w w' r := by
  have hm := h.2.1
  have H := hid h
  have HT := hid hT
  clear h hT
  go_enter Tryd.func11, Tryd.ntmps11
  go_wp2_with (go_at_call 16; (with_reducible refine (new_any w.heap.size w (Nat.le_refl _)).mono ?_); rintro r w1 ⟨rfl, hm1, hb1⟩)
  obtain ⟨bm, hbm⟩ : ∃ bm, w.heap.size = bm := ⟨_, rfl⟩
  have HBM := hid hbm
  have hJ0 : FillJ w w1 bm (.slice none 0 0) 0 [] := by
    rw [← hbm]
    exact ⟨hm1, ⟨[], OV.nil _ _ _ _, RelV.nil⟩, Nat.le_refl _, hb1⟩
  have HJ0 := hid hJ0
  rw [hbm]
  clear hm1 hJ0 hbm hb1
  go_loopw [6, 15] (fun v i wr => ∃ (k : Nat) (l : List NodeR), k ≤ n ∧ i = .int .i64 k ∧ k ≤ 80 ∧ FillJ w wr bm v k l) (fun v i wr => n - (intOf i).toNat)
  case atStart => exact ⟨0, [], Nat.zero_le _, rfl, Nat.zero_le _, HJ0.out⟩
  case round =>
    clear HJ0
    obtain ⟨k, l, hk, rfl, hk80, hJ⟩ := hrel
    by_cases hlt : k < n
    · have hJ1 := hJ
      obtain ⟨hM, ⟨V, hown, hrelv⟩, hlk, hBr⟩ := hJ1
      obtain ⟨ad, rfl, hc1⟩ := H.out.at_ hlt
      obtain ⟨Ak, nk, ck, Av, nv, cv, a0, a1, a2, a3, a4, a5, a6, a7, a8⟩ := hc1
      have a0 := below_cell hBr a0
      have a1 := below_cell hBr a1
      have a2 := below_cell hBr a2
      have a3 := below_cell hBr a3
      have a4 := below_cell hBr a4
      generalize elt noEnt es k = x at *
      have hkl := a5.1
      have hvl := a6.1
      have hkm := a5.2.1
      have hvm := a6.2.1
      have hme : mayE x = mayN nk (eSeq x) (eGone x) (eTil x) nv := by unfold mayE; rw [hkl, hvl]
      have hbn := heap_alloc_new wr (.cells #[.slice Ak nk ck, .int .i64 (eSeq x), .bool (eGone x), .int .i64 (eTil x), .slice Av nv cv] 28)
      have hbb : Below wr.heap.size wr (wr.alloc (.cells #[.slice Ak nk ck, .int .i64 (eSeq x), .bool (eGone x), .int .i64 (eTil x), .slice Av nv cv] 28)) := below_alloc' (Below.refl _ _) _
      obtain ⟨x0, x1, x2, x3, x4⟩ := box5 hbn
      have HJ := hid hJ
      have HM := hid hM
      have HO := hid hown
      have HR := hid hrelv
      have HKV := hid (⟨a5, a6, a7, a8⟩ : _ ∧ _ ∧ _ ∧ _)
      have HLK := hid hlk
      have HME := hid hme
      obtain ⟨Ao, co, hve, _⟩ := hown.openN l.length (by rw [hrelv.1, List.length_map])
      subst hve
      have HHs := hid (⟨fun h => nomay_add (es := l.map nEnt) (x := x) h, fun h hh => has_add (es := l.map nEnt) (x := x) h hh, fun h hh => new_add (es := l.map nEnt) (x := x) h hh⟩ : _ ∧ _ ∧ _)
      have hel : (l.map nEnt).length = l.length := List.length_map _
      clear hJ hM hown hrelv a5 a6 a7 a8 hlk hme
      by_cases h80 : k < 80
      · by_cases hli : nk ≤ 3000 ∧ nv ≤ 3000
        · have HLi := hid (decide_eq_true hli)
          cases hmy : mayE x
          · have HMN : Hid (mayN nk (eSeq x) (eGone x) (eTil x) nv = false) := by unfold Hid; rw [← HME.out]; exact hmy
            have HAR := hid (HHs.out.1 hmy).2
            have HAE := hid (HHs.out.1 hmy).1
            clear hmy
            go_wp2_with (first
            | (go_at_call 17; (with_reducible refine (light_any Ak nk ck (eSeq x) (eGone x) (eTil x) Av nv cv _).mono ?_); rintro r w3 ⟨rfl, hb3⟩; rw [HLi.out]; have hB3 := below_then hbb hb3; have hbn3 := blk_below hb3 hbn; obtain ⟨y0, y1, y2, y3, y4⟩ := box5 hbn3)
            | (go_at_call 29; (with_reducible refine (refmay_any Ak nk ck (eSeq x) (eGone x) (eTil x) Av nv cv _ hkm hvm).mono ?_); rintro r w4 ⟨rfl, hb4⟩; rw [HMN.out]; have hB4 := below_then hB3 hb4; have hbn4 := blk_below hb4 hbn3; obtain ⟨z0, z1, z2, z3, z4⟩ := box5 hbn4)
            | (go_at_call 31; (with_reducible refine (may_any Ak nk ck (eSeq x) (eGone x) (eTil x) Av nv cv _ hkm hvm).mono ?_); rintro r w6 ⟨rfl, hb6⟩; rw [HMN.out]; have hB6 := below_then hB4 hb6; have hbn6 := blk_below hb6 hbn4; obtain ⟨t0, t1, t2, t3, t4⟩ := box5 hbn6)
            | (go_at_call 18; (with_reducible refine (add_any w.heap.size bm l Ak nk ck Av nv cv x _ (HM.out.below hB6) (HT.out.below (below_then hBr hB6)) (HKV.out.1.below (below_then hBr hB6)) (HKV.out.2.1.below (below_then hBr hB6)) (by have := HLK.out; omega)).mono ?_); rintro r w7 ⟨rfl, hadd⟩; rw [HAR.out]; have HAdd := hid hadd; clear hadd))
            have HN := hid (FillJ.step (m := k + 1) (HM.out.below hB6) HAdd.out (HO.out.below hB6) HR.out (HAE.out) (by rw [hel]; have := HLK.out; omega) (below_then hBr hB6))
            obtain ⟨l', hl'⟩ := HN.out
            have HL' := hid hl'
            clear hl' HN
            go_roundw
            case rel => exact ⟨k + 1, l', by omega, by go_num, by omega, HL'.out⟩
            case measure => simp [intOf]; omega
          · have HMN : Hid (mayN nk (eSeq x) (eGone x) (eTil x) nv = true) := by unfold Hid; rw [← HME.out]; exact hmy
            cases hhs : hasE (l.map nEnt) x
            · have HHas : Hid ((!hasE (l.map nEnt) x) = true) := by unfold Hid; rw [hhs]; rfl
              have HAR := hid (HHs.out.2.2 hmy hhs).2.1
              have HAE := hid (HHs.out.2.2 hmy hhs).1
              have HLE := hid (HHs.out.2.2 hmy hhs).2.2
              clear hmy hhs
              go_wp2_with (first
            | (go_at_call 17; (with_reducible refine (light_any Ak nk ck (eSeq x) (eGone x) (eTil x) Av nv cv _).mono ?_); rintro r w3 ⟨rfl, hb3⟩; rw [HLi.out]; have hB3 := below_then hbb hb3; have hbn3 := blk_below hb3 hbn; obtain ⟨y0, y1, y2, y3, y4⟩ := box5 hbn3)
            | (go_at_call 29; (with_reducible refine (refmay_any Ak nk ck (eSeq x) (eGone x) (eTil x) Av nv cv _ hkm hvm).mono ?_); rintro r w4 ⟨rfl, hb4⟩; rw [HMN.out]; have hB4 := below_then hB3 hb4; have hbn4 := blk_below hb4 hbn3; obtain ⟨z0, z1, z2, z3, z4⟩ := box5 hbn4)
            | (go_at_call 30; (with_reducible refine (refput_any w w.heap.size Ao l.length co V (l.map nEnt) Ak nk ck Av nv cv x _ (below_then hBr hB4) (HO.out.below hB4) HR.out (below_then hBr hB4).size HKV.out.1 HKV.out.2.1 HKV.out.2.2.1 HKV.out.2.2.2 hel (by have := HLK.out; omega)).mono ?_); rintro r w5 ⟨v5, V5, rfl, hv5, hr5, hb5⟩; rw [HHas.out]; have hB5 := below_then hB4 hb5; have hbn5 := blk_below hb5 hbn4; obtain ⟨s0, s1, s2, s3, s4⟩ := box5 hbn5)
            | (go_at_call 31; (with_reducible refine (may_any Ak nk ck (eSeq x) (eGone x) (eTil x) Av nv cv _ hkm hvm).mono ?_); rintro r w6 ⟨rfl, hb6⟩; rw [HMN.out]; have hB6 := below_then hB5 hb6; have hbn6 := blk_below hb6 hbn5; obtain ⟨t0, t1, t2, t3, t4⟩ := box5 hbn6)
            | (go_at_call 18; (with_reducible refine (add_any w.heap.size bm l Ak nk ck Av nv cv x _ (HM.out.below hB6) (HT.out.below (below_then hBr hB6)) (HKV.out.1.below (below_then hBr hB6)) (HKV.out.2.1.below (below_then hBr hB6)) (by have := HLK.out; omega)).mono ?_); rintro r w7 ⟨rfl, hadd⟩; rw [HAR.out]; have HAdd := hid hadd; clear hadd))
              have HN := hid (FillJ.step (m := k + 1) (HM.out.below hB6) HAdd.out (hv5.below hb6) hr5 (HAE.out) (by rw [HLE.out, hel]; have := HLK.out; omega) (below_then hBr hB6))
              obtain ⟨l', hl'⟩ := HN.out
              have HL' := hid hl'
              clear hl' HN
              go_roundw
              case rel => exact ⟨k + 1, l', by omega, by go_num, by omega, HL'.out⟩
              case measure => simp [intOf]; omega
            · have HHas : Hid ((!hasE (l.map nEnt) x) = false) := by unfold Hid; rw [hhs]; rfl
              have HAR := hid (HHs.out.2.1 hmy hhs).2.2
              have HAE := hid (HHs.out.2.1 hmy hhs).2.1
              have HPE := hid (HHs.out.2.1 hmy hhs).1
              clear hmy hhs
              go_wp2_with (first
            | (go_at_call 17; (with_reducible refine (light_any Ak nk ck (eSeq x) (eGone x) (eTil x) Av nv cv _).mono ?_); rintro r w3 ⟨rfl, hb3⟩; rw [HLi.out]; have hB3 := below_then hbb hb3; have hbn3 := blk_below hb3 hbn; obtain ⟨y0, y1, y2, y3, y4⟩ := box5 hbn3)
            | (go_at_call 29; (with_reducible refine (refmay_any Ak nk ck (eSeq x) (eGone x) (eTil x) Av nv cv _ hkm hvm).mono ?_); rintro r w4 ⟨rfl, hb4⟩; rw [HMN.out]; have hB4 := below_then hB3 hb4; have hbn4 := blk_below hb4 hbn3; obtain ⟨z0, z1, z2, z3, z4⟩ := box5 hbn4)
            | (go_at_call 30; (with_reducible refine (refput_any w w.heap.size Ao l.length co V (l.map nEnt) Ak nk ck Av nv cv x _ (below_then hBr hB4) (HO.out.below hB4) HR.out (below_then hBr hB4).size HKV.out.1 HKV.out.2.1 HKV.out.2.2.1 HKV.out.2.2.2 hel (by have := HLK.out; omega)).mono ?_); rintro r w5 ⟨v5, V5, rfl, hv5, hr5, hb5⟩; rw [HHas.out]; have hB5 := below_then hB4 hb5; have hbn5 := blk_below hb5 hbn4; obtain ⟨s0, s1, s2, s3, s4⟩ := box5 hbn5)
            | (go_at_call 31; (with_reducible refine (may_any Ak nk ck (eSeq x) (eGone x) (eTil x) Av nv cv _ hkm hvm).mono ?_); rintro r w6 ⟨rfl, hb6⟩; rw [HMN.out]; have hB6 := below_then hB5 hb6; have hbn6 := blk_below hb6 hbn5; obtain ⟨t0, t1, t2, t3, t4⟩ := box5 hbn6)
            | (go_at_call 18; (with_reducible refine (add_any w.heap.size bm l Ak nk ck Av nv cv x _ (HM.out.below hB6) (HT.out.below (below_then hBr hB6)) (HKV.out.1.below (below_then hBr hB6)) (HKV.out.2.1.below (below_then hBr hB6)) (by have := HLK.out; omega)).mono ?_); rintro r w7 ⟨rfl, hadd⟩; rw [HAR.out]; have HAdd := hid hadd; clear hadd))
              have HN := hid (FillJ.step (m := k + 1) (HM.out.below hB6) HAdd.out (hv5.below hb6) hr5 (HAE.out.trans HPE.out.symm) (by rw [HPE.out, hel]; have := HLK.out; omega) (below_then hBr hB6))
              obtain ⟨l', hl'⟩ := HN.out
              have HL' := hid hl'
              clear hl' HN
              go_roundw
              case rel => exact ⟨k + 1, l', by omega, by go_num, by omega, HL'.out⟩
              case measure => simp [intOf]; omega
        · have HLi := hid (decide_eq_false hli)
          clear hli
          go_wp2_with (go_at_call 17; (with_reducible refine (light_any Ak nk ck (eSeq x) (eGone x) (eTil x) Av nv cv _).mono ?_); rintro r w3 ⟨rfl, hb3⟩; rw [HLi.out])
          go_ret3
          exact ⟨bm, _, l, rfl, (HJ.out.below (below_then hbb hb3)).len (by omega)⟩
      · have h80' : (80 : Int) ≤ (k : Int) := by omega
        go_wp2
        go_ret3
        exact ⟨bm, _, l, rfl, (HJ.out.below hbb).len (by omega)⟩
    · obtain rfl : k = n := by omega
      have HJ := hid hJ
      clear hJ
      go_wp2
      go_ret3
      exact ⟨bm, _, l, rfl, HJ.out.len (by omega)⟩
end Go.Proofs.YtlfjbklagljdlaaDoor
