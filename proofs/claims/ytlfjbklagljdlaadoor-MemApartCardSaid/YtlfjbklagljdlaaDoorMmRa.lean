/- Layer 9's laws: MemAdds, MemGets, MemLists, MemNil: the walks. -/
import Derived.Test.YtlfjbklagljdlaaDoorMmFi
import Derived.Test.YtlfjbklagljdlaaDoorMmMa
import Derived.Test.YtlfjbklagljdlaaDoorMmG
namespace Go.Proofs.YtlfjbklagljdlaaDoor
open Go.RowKit
set_option linter.unusedVariables false
set_option linter.unusedSimpArgs false

theorem FillJ.row {w wr : World} {bm m : Nat} {v : Value} {l : List NodeR} (h : FillJ w wr bm v m l) (hm : m ≤ 1000) : ∃ A c, v = .slice A l.length c ∧ REnts wr A l.length (l.map nEnt) := by
  obtain ⟨h1, ⟨V, h2, h3⟩, h4, h5⟩ := h
  obtain ⟨A, c, hv, _, hr⟩ := REnts_of h2 (h3.mono fun x a hx => hx.below h5) (by rw [List.length_map]; omega)
  rw [List.length_map] at hv hr
  exact ⟨A, c, hv, hr⟩
theorem ListC.row {w w' : World} {es : List EntR} {r : Ending} (h : ListC w w' es r) (hm : es.length ≤ 9223372036854775807) : ∃ A c, r = .returned (.slice A es.length c) ∧ REnts w' A es.length es ∧ Below w.heap.size w w' := by
  obtain ⟨v, rfl, hv, hb⟩ := h
  obtain ⟨A, c, rfl, _, hr⟩ := hv.len hm
  exact ⟨A, c, rfl, hr, hb⟩
theorem RowC.row {w w' : World} {es : List EntR} {r : Ending} (h : RowC w w' es r) (hm : es.length ≤ 9223372036854775807) : ∃ A c, r = .returned (.slice A es.length c) ∧ REnts w' A es.length es ∧ Below w.heap.size w w' := by
  obtain ⟨v, V, rfl, hv, hr, hb⟩ := h
  obtain ⟨A, c, rfl, _, hr⟩ := REnts_of hv hr hm
  exact ⟨A, c, rfl, hr, hb⟩
theorem wtL_take {es : List EntR} {k : Nat} (h : k < es.length) : wtL (es.take (k + 1)) = wtL (es.take k) + wtE (elt noEnt es k) := by
  rw [take_succ_elt noEnt h, wtL_app]
  simp [wtL]
set_option maxHeartbeats 32000000 in
set_option maxRecDepth 100000 in
theorem MemAdds_walk (A : Option Addr) (n c : Nat) (es : List EntR) (w : World) (h : REnts w A n es) (hc : n ≤ c) (hT : TabOK w) :
    Calls Tryd.prog 7 #[.slice A n c] w fun e w' => e = .returned (.bool true) ∧ Below w.heap.size w w' := by
  have HF := hid (filled_any A n c es w h hT)
  have HT := hid hT
  clear h hT
  go_enter Tryd.func7, Tryd.ntmps7
  go_wp2_with (go_at_call 11; (with_reducible refine HF.out.mono ?_); rintro r w1 ⟨bm, v, l, rfl, hJ⟩; obtain ⟨Ao, co, hve, hre⟩ := hJ.row (by omega); subst hve; have HJ := hid hJ; clear hJ)
  have hl80 := HJ.out.2.2.1
  have H := hid hre
  have HWB : Hid (∀ k, 0 ≤ wtL ((l.map nEnt).take k) ∧ wtL ((l.map nEnt).take k) ≤ 206080) := fun k => by
    obtain ⟨h1, h2⟩ := wtL_bound (l := (l.map nEnt).take k) fun x hx => HJ.out.1.mayE x (List.mem_of_mem_take hx)
    rw [List.length_take, List.length_map] at h2
    have : min k l.length ≤ 80 := by omega
    omega
  clear hre HF
  go_loopw [6, 19] (fun s i wr => ∃ k : Nat, k ≤ l.length ∧ i = .int .i64 k ∧ s = .int .i64 (wtL ((l.map nEnt).take k)) ∧ Below w1.heap.size w1 wr) (fun s i wr => l.length - (intOf i).toNat)
  case atStart => exact ⟨0, Nat.zero_le _, rfl, rfl, Below.refl _ _⟩
  case round =>
    obtain ⟨k, hk, rfl, rfl, hBr⟩ := hrel
    by_cases hlt : k < l.length
    · obtain ⟨ad, rfl, hc1⟩ := H.out.at_ hlt
      obtain ⟨Ak, nk, ck, Av, nv, cv, a0, a1, a2, a3, a4, a5, a6, a7, a8⟩ := hc1
      have a0 := below_cell hBr a0
      have a1 := below_cell hBr a1
      have a2 := below_cell hBr a2
      have a3 := below_cell hBr a3
      have a4 := below_cell hBr a4
      have hmx := mayE_cases (HJ.out.1.mayE (elt noEnt (l.map nEnt) k) (elt_mem (by rw [List.length_map]; exact hlt)))
      have hwt := wtL_take (es := l.map nEnt) (k := k) (by rw [List.length_map]; exact hlt)
      have hb1 := HWB.out k
      have hb2 := HWB.out (k + 1)
      generalize elt noEnt (l.map nEnt) k = x at *
      have hkl := a5.1
      have hvl := a6.1
      have hwe : wtE x = (nk : Int) + nv + 16 := by unfold wtE; rw [hkl, hvl]
      rw [hwe] at hwt
      rw [hwt] at hb2
      have HWt := hid hwt
      generalize wtL ((l.map nEnt).take k) = S at *
      clear a5 a6 a7 a8 hwt hwe hmx
      go_wp2_with (go_at_call 24; (with_reducible refine (refweight_any Ak nk ck (eSeq x) (eGone x) (eTil x) Av nv cv x _ hkl hvl (by omega) (by omega)).mono ?_); rintro r w3 ⟨rfl, hb3⟩)
      go_roundw
      case rel => exact ⟨k + 1, by omega, by go_num, by rw [HWt.out], below_then hBr (below_then (below_alloc' (Below.refl _ _) _) hb3)⟩
      case measure => simp [intOf]; omega
    · obtain rfl : k = l.length := by omega
      have hte : (l.map nEnt).take l.length = l.map nEnt := by rw [List.take_of_length_le (by rw [List.length_map]; exact Nat.le_refl _)]
      rw [hte]
      have HMr := hid (HJ.out.1.below hBr)
      have hBw := below_then HJ.out.2.2.2 hBr
      have hlm : (l.map nEnt).length = l.length := List.length_map _
      have HLn := hid (len_any w.heap.size bm l wr HMr.out)
      have HWn := hid (weight_any w.heap.size bm l wr HMr.out)
      have HAn := hid (all_any w.heap.size bm l wr HMr.out (by omega))
      clear hte
      go_wp2_with (first
        | (go_at_call 25; (with_reducible refine HLn.out.mono ?_); rintro r w3 ⟨rfl, rfl⟩)
        | (go_at_call 22; (with_reducible refine HWn.out.mono ?_); rintro r w3 ⟨rfl, rfl⟩)
        | (go_at_call 21; (with_reducible refine HAn.out.mono ?_); rintro r w4 hl4; obtain ⟨A4, c4, rfl, hr4, hb4⟩ := hl4.row (by rw [hlm]; omega); rw [hlm] at hr4; have hB4 := below_then hBw hb4; have HR4 := hid hr4; have HRo := hid ((H.out.below hBr).below hb4); clear hl4 hr4)
        | (go_at_call 20; (with_reducible refine (sameentries_any A4 c4 Ao co l.length (l.map nEnt) w4 HR4.out HRo.out).mono ?_); rintro r w5 ⟨rfl, hb5⟩; have hB5 := below_then hB4 hb5)
        | (go_at_call 15; (with_reducible refine (awake_any _ (HT.out.below hB5)).mono ?_); rintro r w6 ⟨rfl, hb6⟩; have hB6 := below_then hB5 hb6))
      go_ret
      exact ⟨rfl, hB6⟩
set_option maxHeartbeats 32000000 in
set_option maxRecDepth 100000 in
theorem MemGets_walk (A : Option Addr) (n c : Nat) (es : List EntR) (Ar : Option Addr) (nr cr : Nat) (key : List UInt8) (s : Int) (w : World) (h : REnts w A n es) (hc : n ≤ c) (hk : RB w Ar nr key) (hkc : nr ≤ cr) (hT : TabOK w) :
    Calls Tryd.prog 3 #[.slice A n c, .slice Ar nr cr, .int .i64 s] w fun e w' => e = .returned (.bool true) ∧ Below w.heap.size w w' := by
  have HF := hid (filled_any A n c es w h hT)
  have HT := hid hT
  have HK := hid hk
  clear h hT hk
  go_enter Tryd.func3, Tryd.ntmps3
  go_wp2_with (go_at_call 11; (with_reducible refine HF.out.mono ?_); rintro r w1 ⟨bm, v, l, rfl, hJ⟩; obtain ⟨Ao, co, hve, hre⟩ := hJ.row (by omega); subst hve; have HJ := hid hJ; have HRe := hid hre; clear hJ hre)
  have hb1 := HJ.out.2.2.2
  have hg := get_any w.heap.size bm l Ar nr cr key s w1 HJ.out.1 (HK.out.below hb1)
  rw [getE_R HJ.out.1.srt] at hg
  have hg2 := fun (w3 : World) (hb : Below w1.heap.size w1 w3) => refget_any Ao l.length co (l.map nEnt) Ar nr cr key s w3 (HRe.out.below hb) (HK.out.below (below_then hb1 hb))
  obtain ⟨x, hx⟩ : ∃ x, (getR key s (l.map nEnt)).1 = x := ⟨_, rfl⟩
  obtain ⟨b, hbb⟩ : ∃ b, (getR key s (l.map nEnt)).2 = b := ⟨_, rfl⟩
  rw [hx, hbb] at hg hg2
  have HG := hid hg
  have HG2 := hid hg2
  clear hg hg2 hx hbb HF
  cases b
  all_goals
    go_wp2_with (first
      | (go_at_call 12; (with_reducible refine HG.out.mono ?_); rintro r w3 ⟨kv, vv, rfl, hk3, hv3, hb3⟩; obtain ⟨A1, c1, rfl, hr1, _⟩ := hk3.open_; obtain ⟨A2, c2, rfl, hr2, _⟩ := hv3.open_; have hbx := heap_alloc_new w3 (.cells #[.slice A1 (eKey x).length c1, .int .i64 (eSeq x), .bool (eGone x), .int .i64 (eTil x), .slice A2 (eVal x).length c2] 28); have hb3x := below_then hb3 (below_alloc' (Below.refl _ _) (.cells #[.slice A1 (eKey x).length c1, .int .i64 (eSeq x), .bool (eGone x), .int .i64 (eTil x), .slice A2 (eVal x).length c2] 28)); have hr1x := hr1.alloc (.cells #[.slice A1 (eKey x).length c1, .int .i64 (eSeq x), .bool (eGone x), .int .i64 (eTil x), .slice A2 (eVal x).length c2] 28); have hr2x := hr2.alloc (.cells #[.slice A1 (eKey x).length c1, .int .i64 (eSeq x), .bool (eGone x), .int .i64 (eTil x), .slice A2 (eVal x).length c2] 28))
      | (go_at_call 13; (with_reducible refine (HG2.out _ hb3x).mono ?_); rintro r w5 ⟨Bk, mk, dk, Bv, mv, dv, rfl, hs1, hs2, hb5⟩; have hb5x := below_then hb3x hb5; have hbx5 := blk_below hb5 hbx; have hr1y := hr1x.below hb5; have hr2y := hr2x.below hb5; have hba := below_alloc' (Below.refl w5.heap.size w5) (.cells #[.slice Bk mk dk, .int .i64 (eSeq x), .bool (eGone x), .int .i64 (eTil x), .slice Bv mv dv] 28); obtain ⟨x0, x1, x2, x3, x4⟩ := box5 (blk_below hba hbx5); have hB6 := below_then hb5x hba)
      | (go_at_call 14; (with_reducible refine (sameentry_any A1 (eKey x).length c1 A2 (eVal x).length c2 Bk mk dk Bv mv dv (eSeq x) (eGone x) (eTil x) (eKey x) (eVal x) _ (hr1y.alloc _) (hr2y.alloc _) (hs1.alloc _) (hs2.alloc _)).mono ?_); rintro r w7 ⟨rfl, hb7⟩; have hB7 := below_then hb1 (below_then hB6 hb7))
      | (go_at_call 15; (with_reducible refine (awake_any _ (HT.out.below hB7)).mono ?_); rintro r w8 ⟨rfl, hb8⟩; have hB8 := below_then hB7 hb8))
    go_ret
    exact ⟨rfl, hB8⟩
set_option maxHeartbeats 32000000 in
set_option maxRecDepth 100000 in
theorem MemLists_walk (A : Option Addr) (n c : Nat) (es : List EntR) (Ar : Option Addr) (nr cr : Nat) (frm : List UInt8) (At : Option Addr) (nt ct : Nat) (tk : List UInt8) (s : Int) (w : World) (h : REnts w A n es) (hc : n ≤ c) (hf : RB w Ar nr frm) (hfc : nr ≤ cr) (ht : RB w At nt tk) (htc : nt ≤ ct) (hT : TabOK w) :
    Calls Tryd.prog 8 #[.slice A n c, .slice Ar nr cr, .slice At nt ct, .int .i64 s] w fun e w' => e = .returned (.bool true) ∧ Below w.heap.size w w' := by
  have HF := hid (filled_any A n c es w h hT)
  have HT := hid hT
  have HFr := hid hf
  have HTo := hid ht
  clear h hT hf ht
  go_enter Tryd.func8, Tryd.ntmps8
  go_wp2_with (go_at_call 11; (with_reducible refine HF.out.mono ?_); rintro r w1 ⟨bm, v, l, rfl, hJ⟩; obtain ⟨Ao, co, hve, hre⟩ := hJ.row (by omega); subst hve; have HJ := hid hJ; have HRe := hid hre; clear hJ hre)
  have hb1 := HJ.out.2.2.2
  have hl80 := HJ.out.2.2.1
  have hlm : (l.map nEnt).length = l.length := List.length_map _
  have hp1 := fun (w3 : World) (hb : Below w1.heap.size w1 w3) => list_any w.heap.size bm l Ar nr cr frm At nt ct tk w3 (HJ.out.1.below hb) (HFr.out.below (below_then hb1 hb)) (HTo.out.below (below_then hb1 hb)) (by omega)
  have hp2 := fun (w3 : World) (hb : Below w1.heap.size w1 w3) => reflist_any Ao l.length co (l.map nEnt) Ar nr cr frm At nt ct tk w3 (HRe.out.below hb) (HFr.out.below (below_then hb1 hb)) (HTo.out.below (below_then hb1 hb)) (by omega)
  have hp3 := fun (w3 : World) (hb : Below w1.heap.size w1 w3) => latest_any w.heap.size bm l Ar nr cr frm At nt ct tk s w3 (HJ.out.1.below hb) (HFr.out.below (below_then hb1 hb)) (HTo.out.below (below_then hb1 hb)) (by omega)
  have hp4 := fun (w3 : World) (hb : Below w1.heap.size w1 w3) => reflatest_any Ao l.length co (l.map nEnt) Ar nr cr frm At nt ct tk s w3 (HRe.out.below hb) (HFr.out.below (below_then hb1 hb)) (HTo.out.below (below_then hb1 hb)) (by omega)
  rw [listE_R HJ.out.1.srt HJ.out.1.mayE] at hp1
  rw [latestE_R HJ.out.1.srt HJ.out.1.mayE] at hp3
  have hL1 : (listR frm tk (l.map nEnt)).length ≤ 80 := by have := listR_len frm tk (l.map nEnt); omega
  have hL2 : (latR s frm tk (l.map nEnt)).length ≤ 80 := by
    have h1 := seenF_len s (listR frm tk (l.map nEnt)) none
    have h2 : (latR s frm tk (l.map nEnt)).length ≤ (seenF s none (listR frm tk (l.map nEnt))).length := List.length_filter_le _ _
    omega
  have HP := hid (⟨hp1, hp2, hp3, hp4⟩ : _ ∧ _ ∧ _ ∧ _)
  generalize listR frm tk (l.map nEnt) = L1 at *
  generalize latR s frm tk (l.map nEnt) = L2 at *
  clear hp1 hp2 hp3 hp4 HF
  go_wp2_with (first
    | (go_at_call 19; (with_reducible refine (HP.out.1 _ (Below.refl _ _)).mono ?_); rintro r w3 hl3; obtain ⟨A3, c3, rfl, hr3, hb3⟩ := hl3.row (by omega); clear hl3)
    | (go_at_call 26; (with_reducible refine (HP.out.2.1 _ hb3).mono ?_); rintro r w4 hl4; obtain ⟨A4, c4, rfl, hr4, hb4⟩ := hl4.row (by omega); have hB4 := below_then hb3 hb4; have HR4 := hid hr4; have HR3 := hid (hr3.below hb4); clear hl4 hr4)
    | (go_at_call 20; (with_reducible refine (sameentries_any A3 c3 A4 c4 L1.length L1 w4 HR3.out HR4.out).mono ?_); rintro r w5 ⟨rfl, hb5⟩; have hB5 := below_then hB4 hb5)
    | (go_at_call 27; (with_reducible refine (HP.out.2.2.1 _ hB5).mono ?_); rintro r w6 hl6; obtain ⟨A6, c6, rfl, hr6, hb6⟩ := hl6.row (by omega); have hB6 := below_then hB5 hb6; clear hl6)
    | (go_at_call 28; (with_reducible refine (HP.out.2.2.2 _ hB6).mono ?_); rintro r w7 hl7; obtain ⟨A7, c7, rfl, hr7, hb7⟩ := hl7.row (by omega); have hB7 := below_then hB6 hb7; have HR7 := hid hr7; have HR6 := hid (hr6.below hb7); clear hl7 hr7)
    | (go_at_call 20; (with_reducible refine (sameentries_any A6 c6 A7 c7 L2.length L2 w7 HR6.out HR7.out).mono ?_); rintro r w8 ⟨rfl, hb8⟩; have hB8 := below_then hb1 (below_then hB7 hb8))
    | (go_at_call 15; (with_reducible refine (awake_any _ (HT.out.below hB8)).mono ?_); rintro r w9 ⟨rfl, hb9⟩; have hB9 := below_then hB8 hb9))
  go_ret
  exact ⟨rfl, hB9⟩
theorem get_none' (Ak : Option Addr) (nk ck : Nat) (s : Int) (w : World) : Calls Tryd.prog 12 #[.pointer none, .slice Ak nk ck, .int .i64 s] w
    fun r w' => ∃ A1 n1 c1 A2 n2 c2, r = .returned (.tuple #[.agg #[.slice A1 n1 c1, .int .i64 0, .bool false, .int .i64 0, .slice A2 n2 c2], .bool false]) ∧ RB w' A1 n1 [] ∧ RB w' A2 n2 [] ∧ Below w.heap.size w w' := by
  refine (get_none Ak nk ck s w).mono ?_
  rintro r w1 ⟨kv, vv, rfl, hk3, hv3, hb1⟩
  obtain ⟨A1, c1, rfl, hr1, _⟩ := hk3.open_
  obtain ⟨A2, c2, rfl, hr2, _⟩ := hv3.open_
  exact ⟨A1, _, c1, A2, _, c2, rfl, hr1, hr2, hb1⟩
set_option maxHeartbeats 32000000 in
set_option maxRecDepth 100000 in
theorem MemNil_walk (Ar : Option Addr) (nr cr : Nat) (key : List UInt8) (s : Int) (w : World) (hk : RB w Ar nr key) (hkc : nr ≤ cr) (hT : TabOK w) :
    Calls Tryd.prog 10 #[.slice Ar nr cr, .int .i64 s] w fun e w' => e = .returned (.bool true) ∧ Below w.heap.size w w' := by
  have HT := hid hT
  have kc := fun (w : World) (C : Array Value) (n c : Nat) => Lib.run_convert_bytes_const (P := Tryd.prog) w 23 5 C n c Tryd.underlying23 Tryd.underlying5
  have kc2 := fun (w : World) (o : Obj) (C : Array Value) (n c : Nat) => Go.Joins.run_convert_bytes_const_at (P := Tryd.prog) (w.alloc o) 23 5 C n c (w.heap.size + 1) (by simp) Tryd.underlying23 Tryd.underlying5
  clear hT hk
  go_enter Tryd.func10, Tryd.ntmps10
  go_wp2_with (first
    | (go_at_call 12; (with_reducible refine (get_none' Ar nr cr s w).mono ?_); rintro r w1 ⟨A1, n1, c1, A2, n2, c2, rfl, hr1, hr2, hb1⟩; have hbx := heap_alloc_new w1 (.cells #[.slice A1 n1 c1, .int .i64 0, .bool false, .int .i64 0, .slice A2 n2 c2] 28); have hB1 := below_alloc' hb1 (.cells #[.slice A1 n1 c1, .int .i64 0, .bool false, .int .i64 0, .slice A2 n2 c2] 28); have hr1x := hr1.alloc (.cells #[.slice A1 n1 c1, .int .i64 0, .bool false, .int .i64 0, .slice A2 n2 c2] 28); have hr2x := hr2.alloc (.cells #[.slice A1 n1 c1, .int .i64 0, .bool false, .int .i64 0, .slice A2 n2 c2] 28))
    | (go_at_call 18; (with_reducible refine (add_none _ 1 1 1 false 0 none 0 0 _).mono ?_); rintro r w3 ⟨rfl, hb3⟩; have hb3' := below_then (below_alloc' (Below.refl _ _) _) hb3; have hB3 := below_then hB1 hb3'; have hbx3 := blk_below hb3' hbx; obtain ⟨x0, x1, x2, x3, x4⟩ := box5 hbx3; have hr1y := hr1x.below hb3'; have hr2y := hr2x.below hb3')
    | (go_at_call 25; (with_reducible refine (len_none _).mono ?_); rintro r w4 ⟨rfl, rfl⟩)
    | (go_at_call 22; (with_reducible refine (weight_none _).mono ?_); rintro r w4 ⟨rfl, rfl⟩)
    | (go_at_call 14; (with_reducible refine (sameentry_any A1 n1 c1 A2 n2 c2 none 0 0 none 0 0 0 false 0 [] [] _ hr1y hr2y (RB.nil _) (RB.nil _)).mono ?_); rintro r w5 ⟨rfl, hb5⟩; have hB5 := below_then hB3 hb5)
    | (go_at_call 21; (with_reducible refine (all_none _).mono ?_); rintro r w6 ⟨rfl, rfl⟩)
    | (go_at_call 19; (with_reducible refine (list_none _ _ _ _ _ _ _).mono ?_); rintro r w6 ⟨rfl, rfl⟩)
    | (go_at_call 27; (with_reducible refine (latest_none _ _ _ _ _ _ _ _).mono ?_); rintro r w6 ⟨rfl, rfl⟩)
    | (go_at_call 15; (with_reducible refine (awake_any _ (HT.out.below hB5)).mono ?_); rintro r w8 ⟨rfl, hb8⟩; have hB8 := below_then hB5 hb8))
  go_ret
  exact ⟨rfl, hB8⟩
end Go.Proofs.YtlfjbklagljdlaaDoor
