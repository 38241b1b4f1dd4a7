/- Shared texts, part S35: TbR, TbL, MmTb. -/
import Derived.Test.YtkkclkknpjapcaaDoorRows
import Derived.LaidMore
import Derived.Stop.Joined
import Derived.Test.YtkkclkknpjapcaaDoorS33
import Derived.Test.YtkkclkknpjapcaaDoorS34
import Derived.Test.YtkkclkknpjapcaaDoorS30
import Derived.Test.YtkkclkknpjapcaaDoorS31
import Derived.Test.YtkkclkknpjapcaaDoorS06
import Derived.Test.YtkkclkknpjapcaaDoorS03
/-! ### TbR -/
namespace Go.Proofs.YtkkclkknpjapcaaDoor
open Go.RowKit
set_option linter.unusedVariables false
set_option linter.unusedSimpArgs false

theorem fit_small {es : List EntR} (hm : AllM es) (hs : Srt es) (h1 : 1 ≤ es.length) (h2 : es.length ≤ 1200) : FitT es := by
  obtain ⟨out, idx, FIL, F, hp⟩ := parts_of hm
  have := hp.len
  have := hp.outL
  have := hp.idxL
  have := hp.filL
  exact ⟨⟨h1, by omega⟩, hm, hs, by omega⟩
/-- What was built opens to its entries. -/
def OpT (w w' : World) (es : List EntR) (r : Ending) : Prop := ∃ bt, r = .returned (.tuple #[.pointer (some ⟨bt, 0, none⟩), .int .i64 0]) ∧ TabR w' bt es (filtB es) ∧ Below w.heap.size w w'
theorem open_tab (A : Option Addr) (n c : Nat) (es : List EntR) (w : World) (h : RB w A n (tabB es)) (hc : n ≤ c) (hf : FitT es) :
    Calls Tryd.prog 9 #[.slice A n c] w fun r w' => OpT w w' es r := by
  have hl := h.1
  have h4 := hf.2.2.2
  refine (open_any A n c (tabB es) w h hc (by omega)).mono ?_
  intro r w' ho
  unfold OpnC at ho
  rw [openF_tab hf] at ho
  obtain ⟨bt, rfl, ht, hb⟩ := ho
  exact ⟨bt, rfl, ht.reads, hb⟩
/-- What is built of entries that fit. -/
def BdT (w w' : World) (es : List EntR) (r : Ending) : Prop := ∃ A n c, r = .returned (.tuple #[.slice A n c, .int .i64 0]) ∧ n = (tabB es).length ∧ OB w' w.heap.size (.slice A n c) (tabB es) ∧ RB w' A n (tabB es) ∧ n ≤ c ∧ Below w.heap.size w w'
theorem build_tab (A : Option Addr) (n c : Nat) (es : List EntR) (w : World) (h : REnts w A n es) (hc : n ≤ c) (hf : FitT es) :
    Calls Tryd.prog 8 #[.slice A n c] w fun r w' => BdT w w' es r := by
  refine (tbuild_any A n c es w h hc).mono ?_
  rintro r w' ⟨E, v, rfl, hE, ho, hb⟩
  obtain rfl := hE.fit.2 hf
  have ho2 : OB w' w.heap.size v (tabB es) := ho
  obtain ⟨A2, c2, rfl, hr, hc2⟩ := ho2.open_
  exact ⟨A2, _, c2, rfl, rfl, ho2, hr, hc2, hb⟩
def entA : EntR := mkEnt [97] 1 false 0 [120]
theorem fit_a : FitT [entA] := fit_small (all_one.2 (by decide)) (srt_one _) (by decide) (by decide)
theorem rents_a (U : World) (k1 k2 g : Nat) (hg : g = U.heap.size) (h1 : RB U (some ⟨k1, 0, none⟩) 1 [97]) (h2 : RB U (some ⟨k2, 0, none⟩) 1 [120]) :
    REnts (U.alloc (.cells #[.slice (some ⟨k1, 0, none⟩) 1 1, .int .i64 1, .bool false, .int .i64 0, .slice (some ⟨k2, 0, none⟩) 1 1] 29)) (some ⟨g, 0, none⟩) 1 [entA] := by
  subst hg
  have hb := heap_alloc_new U (.cells #[.slice (some ⟨k1, 0, none⟩) 1 1, .int .i64 1, .bool false, .int .i64 0, .slice (some ⟨k2, 0, none⟩) 1 1] 29)
  have hB := below_alloc' (Below.refl U.heap.size U) (.cells #[.slice (some ⟨k1, 0, none⟩) 1 1, .int .i64 1, .bool false, .int .i64 0, .slice (some ⟨k2, 0, none⟩) 1 1] 29)
  refine ⟨rfl, by omega, fun _ => ⟨_, rfl, fun j hj => ?_⟩⟩
  obtain rfl : j = 0 := by omega
  exact ⟨_, 1, 1, _, 1, 1, box_at hb 0 _ rfl, box_at hb 1 _ rfl, box_at hb 2 _ rfl, box_at hb 3 _ rfl, box_at hb 4 _ rfl, h1.below hB, h2.below hB, by omega, by omega⟩
theorem bstr_a : bstr [97] = ⟨#[97]⟩ := rfl
set_option maxHeartbeats 16000000 in
set_option maxRecDepth 100000 in
theorem tawake_any (w : World) : Calls Tryd.prog 5 #[] w fun e w' => e = .returned (.bool true) ∧ Below w.heap.size w w' := by
  have kc := fun (w : World) (C : Array Value) (n c : Nat) => Lib.run_convert_bytes_const (P := Tryd.prog) w 23 5 C n c Tryd.underlying23 Tryd.underlying5
  have kc2 := fun (w : World) (o : Obj) (C : Array Value) (n c : Nat) => Go.Joins.run_convert_bytes_const_at (P := Tryd.prog) (w.alloc o) 23 5 C n c (w.heap.size + 1) (by simp) Tryd.underlying23 Tryd.underlying5
  have r1 : RB ((w.alloc (.cells #[.int .u8 97] 5 (1, 2))).alloc (.cells #[.int .u8 120] 5 (1, 2))) (some ⟨w.heap.size, 0, none⟩) 1 [97] := (RB.lit w [97] _ _ _ rfl (by simp)).alloc _
  have r2 : RB ((w.alloc (.cells #[.int .u8 97] 5 (1, 2))).alloc (.cells #[.int .u8 120] 5 (1, 2))) (some ⟨w.heap.size + 1, 0, none⟩) 1 [120] := by
    exact rb_lit1' _ 120 120 rfl _ _ _ (by simp)
  have hR := hid (rents_a _ w.heap.size (w.heap.size + 1) (w.heap.size + 1 + 1) (by simp) r1 r2)
  have hB := below_alloc' (below_alloc' (below_alloc' (Below.refl w.heap.size w) (.cells #[.int .u8 97] 5 (1, 2))) (.cells #[.int .u8 120] 5 (1, 2))) (.cells #[.slice (some ⟨w.heap.size, 0, none⟩) 1 1, .int .i64 1, .bool false, .int .i64 0, .slice (some ⟨w.heap.size + 1, 0, none⟩) 1 1] 29)
  have HB := hid hB
  have HFa : Hid (FitT [entA]) := hid fit_a
  have HMa : Hid (AllM [entA]) := hid fit_a.2.1
  have hbs := bstr_a
  clear r1 r2 hB
  go_enter Tryd.func5, Tryd.ntmps5
  go_wp2_with (first
    | (go_at_call 8; go_loud (refine (build_tab _ 1 1 [entA] _ hR.out (by omega) HFa.out).mono ?_); rintro r w1 ⟨A1, n1, c1, rfl, hn1, ho1, hr1, hc1, hb1⟩; have HR1 := hid hr1; have HB1 := hid (below_then HB.out hb1); clear ho1 hr1 hn1 hb1)
    | (go_at_call 9; (with_reducible refine (open_tab A1 n1 c1 [entA] _ HR1.out hc1 HFa.out).mono ?_); rintro r w2 ⟨bt, rfl, ht2, hb2⟩; have HT2 := hid ht2; have HB2 := hid (below_then HB1.out hb2); clear ht2 hb2)
    | (go_at_call 20; (with_reducible refine (tlen_any bt [entA] (filtB [entA]) _ HT2.out).mono ?_); rintro e w3 ⟨rfl, rfl⟩)
    | (go_at_call 21; (with_reducible refine (tmost_any bt [entA] (filtB [entA]) _ HT2.out (by decide) HMa.out).mono ?_); rintro e w4 ⟨A4, n4, c4, rfl, hr4, hc4, hb4⟩; have hcv : (convert 23 9 (.slice A4 n4 c4)).run Tryd.prog w4 = .ok (.string ⟨#[97]⟩) w4 := (hr4.conv c4); have HB4 := hid (below_then HB2.out hb4); clear hr4 hb4))
  go_ret
  exact ⟨by first | rfl | simp, HB4.out⟩
end Go.Proofs.YtkkclkknpjapcaaDoor
/-! ### TbL -/
namespace Go.Proofs.YtkkclkknpjapcaaDoor
open Go.RowKit
set_option linter.unusedVariables false
set_option linter.unusedSimpArgs false

set_option maxHeartbeats 16000000 in
set_option maxRecDepth 100000 in
theorem tsorted_any (A : Option Addr) (n c : Nat) (es : List EntR) (w : World) (h : REnts w A n es) : Calls Tryd.prog 4 #[.slice A n c] w fun r w' => SrtdB w w' r := by
  have hmax := h.2.1
  have H := hid h
  clear h
  go_enter Tryd.func4, Tryd.ntmps4
  go_wp2
  go_loopw [3, 8] (fun v i wr => ∃ j : Nat, j ≤ n ∧ i = .int .i64 j ∧ SoB w wr v j) (fun v i wr => n - (intOf i).toNat)
  case atStart => exact ⟨0, Nat.zero_le _, rfl, [], [], OV.nil _ _ _ _, RelV.nil, trivial, Nat.le_refl _, Nat.zero_le _, fun e he => (by cases he), Below.refl _ _⟩
  case round =>
    obtain ⟨j, hj, rfl, hS⟩ := hrel
    have HS := hid hS
    obtain ⟨es0, U, hU, hUr, hs1, hs2, hs3, hs4, hBw⟩ := hS
    by_cases hjl : j < n
    · obtain ⟨ae, rfl, hc1⟩ := H.out.at_ hjl
      obtain ⟨Ak, nk, ck, Av, nv, cv, a0, a1, a2, a3, a4, a5, a6, a7, a8⟩ := hc1
      have a0 := below_cell hBw a0
      have a1 := below_cell hBw a1
      have a2 := below_cell hBw a2
      have a3 := below_cell hBw a3
      have a4 := below_cell hBw a4
      have hkl := a5.max
      have hvl := a6.max
      have e5 := a5.1
      have e6 := a6.1
      generalize elt noEnt es j = x at *
      obtain ⟨M, hM⟩ : ∃ M, mayE x = M := ⟨_, rfl⟩
      have hmN : mayN nk (eSeq x) (eGone x) (eTil x) nv = M := by rw [← e5, ← e6]; exact hM
      have HmN := hid hmN
      have HM := hid hM
      have HKV := hid (⟨a5, a6, a7, a8⟩ : _ ∧ _ ∧ _ ∧ _)
      have hba := below_alloc' (Below.refl wr.heap.size wr) (.cells #[.slice Ak nk ck, .int .i64 (eSeq x), .bool (eGone x), .int .i64 (eTil x), .slice Av nv cv] 29)
      have HSn := hid ((HS.out.below hba).more)
      have hB2 := hid (below_then hBw hba)
      obtain ⟨Ao, co, hve, _⟩ := hU.openN es0.length hUr.1
      subst hve
      have HU := hid (hU.below hba)
      have HUr := hid hUr
      have HQ := hid (⟨hs1, hs2, hs3, hs4⟩ : _ ∧ _ ∧ _ ∧ _)
      clear a5 a6 a7 a8 hM hmN e5 e6 hU hUr hs1 hs2 hs3 hs4 HS hBw hba
      by_cases hp : j < 60
      · have hd1 : decide ((j : Int) < 60) = true := decide_eq_true (by omega)
        cases M
        · go_wp2_with (go_at_call 18; (with_reducible refine (refmay_any Ak nk ck (eSeq x) (eGone x) (eTil x) Av nv cv _ hkl hvl).mono ?_); rintro r w4 ⟨rfl, hb4⟩; rw [HmN.out])
          go_roundw
          case rel => exact ⟨j + 1, by omega, by go_num, HSn.out.below hb4⟩
          case measure => simp [intOf]; omega
        · go_wp2_with (first
            | (go_at_call 18; (with_reducible refine (refmay_any Ak nk ck (eSeq x) (eGone x) (eTil x) Av nv cv _ hkl hvl).mono ?_); rintro r w4 ⟨rfl, hb4⟩; rw [HmN.out]; have HB4 := hid hb4; have hbx := heap_alloc_new wr (.cells #[.slice Ak nk ck, .int .i64 (eSeq x), .bool (eGone x), .int .i64 (eTil x), .slice Av nv cv] 29); obtain ⟨y0, y1, y2, y3, y4⟩ := box5 (blk_below hb4 hbx); clear hb4 hbx)
            | (go_at_call 19; (with_reducible refine (refputE_any w w.heap.size Ao es0.length co U es0 Ak nk ck Av nv cv x _ (below_then hB2.out HB4.out) (HU.out.below HB4.out) HUr.out (below_then hB2.out HB4.out).size HKV.out.1 HKV.out.2.1 HKV.out.2.2.1 HKV.out.2.2.2 rfl (by have := HQ.out.2.2.1; omega)).mono ?_); rintro r w5 ⟨v5, V5, rfl, hv5, hr5, hb5⟩))
          have HN : Hid (SoB w w5 v5 (j + 1)) := hid ⟨putE es0 x, V5, hv5, hr5, put_srt HQ.out.1, by have := put_len' es0 x; have := HQ.out.2.1; omega, by have := put_len' es0 x; have := HQ.out.2.1; omega, fun y hy => (put_mem' hy).elim (HQ.out.2.2.2 y) (fun h => by rw [h]; exact HM.out), below_then (below_then hB2.out HB4.out) hb5⟩
          clear hv5 hr5
          go_roundw
          case rel => exact ⟨j + 1, by omega, by go_num, HN.out⟩
          case measure => simp [intOf]; omega
      · have hd1 : decide ((j : Int) < 60) = false := decide_eq_false (by omega)
        go_wp2
        go_roundw
        case rel => exact ⟨j + 1, by omega, by go_num, HSn.out⟩
        case measure => simp [intOf]; omega
    · obtain rfl : j = n := by omega
      obtain ⟨A2, c2, hv2, hc2, hr2⟩ := REnts_of hU (hUr.mono fun x a hx => hx.below hBw) (by omega)
      subst hv2
      have HR := hid hr2
      have HAll : Hid (AllM es0) := hid (fun i hi => hs4 _ (elt_mem hi))
      have HSr := hid hs1
      clear hr2 hU hUr hs1 hs4 HS
      go_wp2
      go_ret
      exact ⟨A2, c2, es0, rfl, hc2, HR.out, HSr.out, HAll.out, hs3, hBw⟩
end Go.Proofs.YtkkclkknpjapcaaDoor
/-! ### MmTb -/
namespace Go.Proofs.YtkkclkknpjapcaaDoor
open Go.ChangeShapes Go.WideShapes Go.ChangeAt Go.RowKit
set_option linter.unusedVariables false
set_option linter.unusedSimpArgs false
abbrev laidTab : List (String × DataW Unit) := [("math/bits.deBruijn64tab", Rows.laid_math_bits_deBruijn64tab)]
theorem gTab : Tryd.prog.globalNamed "math/bits.deBruijn64tab" = some 0 := by kernel_rfl
theorem tTab : (Tryd.prog.globals[0]?).map (·.type) = some 108 := by kernel_rfl
/-- The door's own heap meets the condition. -/
theorem door_met (os : Os) (args : Array Value) : laidMetH Tryd.prog laidTab ((World.doorLaid Tryd.prog 400 os).forCall (fun _ _ => 0) ⟨#[], args, []⟩).memory :=
  laidMetH_of_parts3 (fuel := 8) (laidMet_of_run' 8 (by kernel_rfl) (by kernel_rfl)) (by kernel_rfl) (by kernel_rfl)
theorem tab_of_laid {W : World} (h : laidMetH Tryd.prog laidTab W) : TabOK W := by
  rw [MakeChecks.laidMetH_plain _ _ _ (by kernel_rfl)] at h
  obtain ⟨ps, ⟨g0, t0, cs0, f0, p0, q0, hg0, ht0, hv0, hd0, _, _⟩, _, _⟩ := h
  obtain rfl := Option.some.inj (gTab.symm.trans hg0)
  obtain rfl := Option.some.inj (tTab.symm.trans ht0)
  obtain ⟨xs, m1, rfl, hx1, hlen, hn3, hel⟩ := DataW.trod_array Tryd.underlying108 hd0
  have c1 : Tryd.prog.cellsOf 5 = 1 := by kernel_rfl
  have c64 : Tryd.prog.cellsOf 108 = 64 := by kernel_rfl
  rw [c64] at hlen
  intro i hi
  have h0 := hel i hi
  rw [c1, Nat.mul_one] at h0
  obtain ⟨x, hx⟩ : ∃ x, xs[i]? = some x := ⟨xs[i]'(by omega), List.getElem?_eq_getElem (by omega)⟩
  rw [hx] at h0
  obtain ⟨k, e1, e2, hwf⟩ := DataW.trod_int Tryd.underlying5 h0
  have hb := wf_u8 hwf
  have hc := World.var?_cell hg0 hv0 i
  have hcs : cs0[i]? = some (.int .u8 k) := by
    have h1 : ((cs0.toList.drop i).take 1)[0]? = some (.int .u8 k) := by rw [e1]; rfl
    rw [List.getElem?_take, if_pos (by omega), List.getElem?_drop, Nat.add_zero] at h1
    simpa using h1
  refine ⟨k.toNat, ?_, by omega⟩
  rw [show ((k.toNat : Nat) : Int) = k by omega]
  rw [hcs] at hc
  simpa using hc
end Go.Proofs.YtkkclkknpjapcaaDoor
