/- The document's Get, List, Seen, Latest, Weight over rows of entries. -/
import Derived.Test.YtlfjbklagljdlaaDoorMmN
namespace Go.Proofs.YtlfjbklagljdlaaDoor
open Go.RowKit
set_option linter.unusedVariables false
set_option linter.unusedSimpArgs false

set_option maxHeartbeats 4000000 in
theorem refcompare_quiet (A : Option Addr) (n c : Nat) (xs : List UInt8) (A' : Option Addr) (n' c' : Nat) (ys : List UInt8) (w : World) (h : RB w A n xs) (h' : RB w A' n' ys) :
    Calls Tryd.prog 35 #[.slice A n c, .slice A' n' c'] w fun e w' => e = .returned (.int .i64 (cmpB xs ys)) ∧ ∃ m, w' = w.drewN m := by
  have HL := hid (cmpB_less xs ys)
  have q1 := h.conv c
  have q2 := h'.conv c'
  have q3 := h.drew.conv c
  have q4 := h'.drew.conv c'
  have b1 : (bstr xs).toList = xs := ByteArray.toList_mk xs
  have b2 : (bstr ys).toList = ys := ByteArray.toList_mk ys
  clear h h'
  by_cases h1 : Op.bytesLess xs ys = true
  · have g1 : Op.bytesLess (bstr xs).toList (bstr ys).toList = true := by rw [b1, b2]; exact h1
    have HR : Hid (cmpB xs ys = -1) := by unfold Hid; rw [HL.out, if_pos h1]
    clear HL h1 b1 b2
    go_enter Tryd.func35, Tryd.ntmps35
    go_wp2
    go_region
    go_wp2
    go_ret
    exact ⟨by rw [HR.out]; rfl, 1, rfl⟩
  · have g1 : Op.bytesLess (bstr xs).toList (bstr ys).toList = false := by rw [b1, b2]; simpa using h1
    by_cases h2 : Op.bytesLess ys xs = true
    · have HR : Hid (cmpB xs ys = 1) := by unfold Hid; rw [HL.out, if_neg h1, if_pos h2]
      have g2 : ∀ u, (binOp .gtr 9 (.string (bstr xs)) (.string (bstr ys))).run Tryd.prog u = .ok (.bool true) u := fun u => by rw [run_gtr, HR.out]; rfl
      clear HL h1 h2 b1 b2
      go_enter Tryd.func35, Tryd.ntmps35
      go_wp2
      go_region
      go_wp2
      go_ret
      exact ⟨by rw [HR.out]; rfl, 1, rfl⟩
    · have HR : Hid (cmpB xs ys = 0) := by unfold Hid; rw [HL.out, if_neg h1, if_neg h2]
      have g2 : ∀ u, (binOp .gtr 9 (.string (bstr xs)) (.string (bstr ys))).run Tryd.prog u = .ok (.bool false) u := fun u => by rw [run_gtr, HR.out]; rfl
      clear HL h1 h2 b1 b2
      go_enter Tryd.func35, Tryd.ntmps35
      go_wp2
      go_region
      go_wp2
      go_ret
      exact ⟨by rw [HR.out]; rfl, 1, rfl⟩
set_option maxHeartbeats 4000000 in
theorem refweight_any (Ak : Option Addr) (nk ck : Nat) (s : Int) (g : Bool) (t : Int) (Av : Option Addr) (nv cv : Nat) (e : EntR) (w : World) (hk : (eKey e).length = nk) (hv : (eVal e).length = nv) (h1 : nk ≤ 140737488355328) (h2 : nv ≤ 140737488355328) :
    Calls Tryd.prog 24 #[.agg #[.slice Ak nk ck, .int .i64 s, .bool g, .int .i64 t, .slice Av nv cv]] w fun r w' => r = .returned (.int .i64 ((nk : Int) + nv + 16)) ∧ Below w.heap.size w w' := by
  clear hk hv
  go_enter Tryd.func24, Tryd.ntmps24
  go_wp2
  go_ret
  exact ⟨rfl, below_alloc' (Below.refl _ _) _⟩
/-! ## Get -/
def getR (key : List UInt8) (s : Int) : List EntR → EntR × Bool
  | [] => (noEnt, false)
  | x :: l => if eKey x = key ∧ eSeq x ≤ s then (x, true) else getR key s l
def GetRC (w w' : World) (x : EntR) (b : Bool) (r : Ending) : Prop :=
  ∃ Ak nk ck Av nv cv, r = .returned (.tuple #[.agg #[.slice Ak nk ck, .int .i64 (eSeq x), .bool (eGone x), .int .i64 (eTil x), .slice Av nv cv], .bool b]) ∧ RB w' Ak nk (eKey x) ∧ RB w' Av nv (eVal x) ∧ Below w.heap.size w w'
theorem GetRC.none {w w' : World} (hb : Below w.heap.size w w') : GetRC w w' noEnt false (.returned (.tuple #[.agg #[.slice none 0 0, .int .i64 0, .bool false, .int .i64 0, .slice none 0 0], .bool false])) := ⟨_, _, _, _, _, _, rfl, RB.nil _, RB.nil _, hb⟩
set_option maxHeartbeats 16000000 in
set_option maxRecDepth 100000 in
theorem refget_any (A : Option Addr) (n c : Nat) (es : List EntR) (Ar : Option Addr) (nr cr : Nat) (key : List UInt8) (s : Int) (w : World) (h : REnts w A n es) (hk : RB w Ar nr key) :
    Calls Tryd.prog 13 #[.slice A n c, .slice Ar nr cr, .int .i64 s] w fun r w' => GetRC w w' (getR key s es).1 (getR key s es).2 r := by
  have hm := h.2.1
  have hl := h.1
  have H := hid h
  have HK := hid hk
  have HL := hid hl
  have hrx := heap_alloc_new w (.cells #[.slice none 0 0, .int .i64 0, .bool false, .int .i64 0, .slice none 0 0] 28)
  have hB0 : Below w.heap.size w (w.alloc (.cells #[.slice none 0 0, .int .i64 0, .bool false, .int .i64 0, .slice none 0 0] 28)) := below_alloc' (Below.refl _ _) _
  clear h hk hl
  go_enter Tryd.func13, Tryd.ntmps13
  go_wp2
  generalize w.alloc (.cells #[.slice none 0 0, .int .i64 0, .bool false, .int .i64 0, .slice none 0 0] 28) = W1 at *
  obtain ⟨b, hb⟩ : ∃ b, w.heap.size = b := ⟨_, rfl⟩
  have HbE := hid hb
  rw [hb] at hrx ⊢
  clear hb
  go_loopw [12] (fun i wr => ∃ k : Nat, k ≤ n ∧ i = .int .i64 k ∧ getR key s es = getR key s (es.drop k) ∧ Below W1.heap.size W1 wr) (fun i wr => n - (intOf i).toNat)
  case atStart => exact ⟨0, Nat.zero_le _, rfl, rfl, Below.refl _ _⟩
  case round =>
    obtain ⟨k, hk, rfl, hget, hBr⟩ := hrel
    have hbr := below_then hB0 hBr
    have hrxr := blk_below hBr hrx
    by_cases hlt : k < n
    · obtain ⟨ad, rfl, hc1⟩ := H.out.at_ hlt
      obtain ⟨Ak, nk, ck, Av, nv, cv, a0, a1, a2, a3, a4, a5, a6, _, _⟩ := hc1
      have a0 := below_cell hbr a0
      have a1 := below_cell hbr a1
      have a2 := below_cell hbr a2
      have a3 := below_cell hbr a3
      have a4 := below_cell hbr a4
      rw [drop_elt (by rw [HL.out]; exact hlt)] at hget
      generalize elt noEnt es k = x at *
      obtain ⟨C, hC⟩ : ∃ C, cmpB (eKey x) key = C := ⟨_, rfl⟩
      have hz := cmpB_zero (eKey x) key
      rw [hC] at hz
      have HZ := hid hz
      have HC := hid hC
      have HG := hid hget
      have hbn := heap_alloc_new wr (.cells #[.slice Ak nk ck, .int .i64 (eSeq x), .bool (eGone x), .int .i64 (eTil x), .slice Av nv cv] 28)
      have hbb : Below wr.heap.size wr (wr.alloc (.cells #[.slice Ak nk ck, .int .i64 (eSeq x), .bool (eGone x), .int .i64 (eTil x), .slice Av nv cv] 28)) := below_alloc' (Below.refl _ _) _
      have hBb := below_then hBr hbb
      have hrxb := blk_below hbb hrxr
      have HX := hid (a5.below (below_then hbr hbb))
      have HKb := hid (HK.out.below (below_then hbr hbb))
      have HXw := hid a5
      have HVw := hid a6
      clear a5 a6 hz hC hget
      by_cases hc0 : C = 0
      · have hb0 : (C == 0) = true := by simpa using hc0
        by_cases hsq : eSeq x ≤ s
        · have hd : decide (eSeq x ≤ s) = true := decide_eq_true hsq
          have hres : getR key s es = (x, true) := by rw [HG.out, getR, if_pos ⟨HZ.out.1 hc0, hsq⟩]
          have HRes := hid hres
          clear hres hsq hc0 HG HZ
          go_wp2_with (go_at_call 35; (with_reducible refine (refcompare_any Ak nk ck (eKey x) Ar nr cr key _ HX.out HKb.out).mono ?_); rintro r w3 ⟨rfl, hb3⟩; rw [HC.out]; have hB3 := below_then hBb hb3; have hbn3 := blk_below hb3 hbn; have n1 := box_at hbn3 1 (.int .i64 (eSeq x)) rfl; have n0 := box_at hbn3 0 (.slice Ak nk ck) rfl; have n2 := box_at hbn3 2 (.bool (eGone x)) rfl; have n3 := box_at hbn3 3 (.int .i64 (eTil x)) rfl; have n4 := box_at hbn3 4 (.slice Av nv cv) rfl; have hrx3 := blk_below hb3 hrxb; have hz0 := box_at hrx3 0 (.slice none 0 0) rfl; have hz1 := box_at hrx3 1 (.int .i64 0) rfl; have hz2 := box_at hrx3 2 (.bool false) rfl; have hz3 := box_at hrx3 3 (.int .i64 0) rfl; have hz4 := box_at hrx3 4 (.slice none 0 0) rfl; have fz := fun i => frozen_of_row w3 b i _ _ hrx3)
          have hfin := set5 (.slice Ak nk ck) (.int .i64 (eSeq x)) (.bool (eGone x)) (.int .i64 (eTil x)) (.slice Av nv cv) hrx3
          have hgf := grown_set5 w3 b (.slice Ak nk ck) (.int .i64 (eSeq x)) (.bool (eGone x)) (.int .i64 (eTil x)) (.slice Av nv cv)
          have hb1 := (HbE.out ▸ below_then hB0 hB3 : Below w.heap.size w w3)
          have hfb : Below w.heap.size w (((((w3.setCell ⟨b, 0, none⟩ (.slice Ak nk ck)).setCell ⟨b, 1, none⟩ (.int .i64 (eSeq x))).setCell ⟨b, 2, none⟩ (.bool (eGone x))).setCell ⟨b, 3, none⟩ (.int .i64 (eTil x))).setCell ⟨b, 4, none⟩ (.slice Av nv cv)) := hb1.grown hgf hb1.size (fun k hk => by have := HbE.out; cases hk; omega)
          (try simp only [Exit.inBlock, Exit.then])
          refine bodyPost_ret (results_box2 (fn := Tryd.f13) (p := 6) (u := 7) (ty := 28) rfl _ _ b 28 #[.slice Ak nk ck, .int .i64 (eSeq x), .bool (eGone x), .int .i64 (eTil x), .slice Av nv cv] (0, 0) _ rfl hfin Tryd.underlying28 rfl entry5) rfl ?_
          rw [HRes.out]
          exact ⟨Ak, nk, ck, Av, nv, cv, rfl, HXw.out.below hfb, HVw.out.below hfb, hfb⟩
        · have hd : decide (eSeq x ≤ s) = false := decide_eq_false hsq
          have hres : getR key s es = getR key s (es.drop (k + 1)) := by rw [HG.out, getR, if_neg (fun h => hsq h.2)]
          have HRes := hid hres
          clear hres hsq hc0 HG HZ
          go_wp2_with (go_at_call 35; (with_reducible refine (refcompare_any Ak nk ck (eKey x) Ar nr cr key _ HX.out HKb.out).mono ?_); rintro r w3 ⟨rfl, hb3⟩; rw [HC.out]; have hB3 := below_then hBb hb3; have hbn3 := blk_below hb3 hbn; have n1 := box_at hbn3 1 (.int .i64 (eSeq x)) rfl)
          go_roundw
          case rel => exact ⟨k + 1, by omega, by go_num, HRes.out, hB3⟩
          case measure => simp [intOf]; omega
      · have hb0 : (C == 0) = false := by simpa using hc0
        have hres : getR key s es = getR key s (es.drop (k + 1)) := by rw [HG.out, getR, if_neg (fun h => hc0 (HZ.out.2 h.1))]
        have HRes := hid hres
        clear hres hc0 HG HZ
        go_wp2_with (go_at_call 35; (with_reducible refine (refcompare_any Ak nk ck (eKey x) Ar nr cr key _ HX.out HKb.out).mono ?_); rintro r w3 ⟨rfl, hb3⟩; rw [HC.out]; have hB3 := below_then hBb hb3; have hbn3 := blk_below hb3 hbn; have n1 := box_at hbn3 1 (.int .i64 (eSeq x)) rfl)
        go_roundw
        case rel => exact ⟨k + 1, by omega, by go_num, HRes.out, hB3⟩
        case measure => simp [intOf]; omega
    · obtain rfl : k = n := by omega
      have hres : getR key s es = (noEnt, false) := by rw [hget, List.drop_eq_nil_of_le (by rw [HL.out]; exact Nat.le_refl _)]; rfl
      have HRes := hid hres
      have z0 := box_at hrxr 0 (.slice none 0 0) rfl
      have z1 := box_at hrxr 1 (.int .i64 0) rfl
      have z2 := box_at hrxr 2 (.bool false) rfl
      have z3 := box_at hrxr 3 (.int .i64 0) rfl
      have z4 := box_at hrxr 4 (.slice none 0 0) rfl
      have fz := fun i => frozen_of_row wr b i _ _ hrxr
      clear hres hget
      go_wp2
      have hfin := set5 (.slice none 0 0) (.int .i64 0) (.bool false) (.int .i64 0) (.slice none 0 0) hrxr
      have hgf := grown_set5 wr b (.slice none 0 0) (.int .i64 0) (.bool false) (.int .i64 0) (.slice none 0 0)
      have hb1 : Below w.heap.size w wr := hbr
      have hfb : Below w.heap.size w (((((wr.setCell ⟨b, 0, none⟩ (.slice none 0 0)).setCell ⟨b, 1, none⟩ (.int .i64 0)).setCell ⟨b, 2, none⟩ (.bool false)).setCell ⟨b, 3, none⟩ (.int .i64 0)).setCell ⟨b, 4, none⟩ (.slice none 0 0)) := hb1.grown hgf hb1.size (fun k hk => by have := HbE.out; cases hk; omega)
      (try simp only [Exit.inBlock, Exit.then])
      refine bodyPost_ret (results_box2 (fn := Tryd.f13) (p := 6) (u := 7) (ty := 28) rfl _ _ b 28 #[.slice none 0 0, .int .i64 0, .bool false, .int .i64 0, .slice none 0 0] (0, 0) _ rfl hfin Tryd.underlying28 rfl entry5) rfl ?_
      rw [HRes.out]
      exact GetRC.none hfb
end Go.Proofs.YtlfjbklagljdlaaDoor
