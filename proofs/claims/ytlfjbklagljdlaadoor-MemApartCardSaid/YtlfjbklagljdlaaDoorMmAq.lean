/- Layer 9's laws: MemApart: the walk. -/
import Derived.Test.YtlfjbklagljdlaaDoorMmAp
import Derived.Deep.RegionLaw
namespace Go.Proofs.YtlfjbklagljdlaaDoor
open Go.RowKit
set_option linter.unusedVariables false
set_option linter.unusedSimpArgs false

/-- Behind Add of a copy: the copy's bytes are no bytes of the mem's. -/
theorem FlipJ.mk {w wr w6 w7 : World} {bm b nk nv k : Nat} {l : List NodeR} {kv vv : Value} {e : EntR} {key val : List UInt8} (hr : MemL wr w.heap.size bm l) (hM : MemL w6 w.heap.size bm l) (hA : AddO w6 w7 w.heap.size bm l e) (hbox : w6.heap[b]? = some (.cells #[kv, .int .i64 (eSeq e), .bool (eGone e), .int .i64 (eTil e), vv] 28 (0, 0)))
    (hB : Below w.heap.size w w6) (hbr : w.heap.size ≤ wr.heap.size) (hk : OB w6 wr.heap.size kv key) (hv : OB w6 wr.heap.size vv val) (hnk : key.length = nk) (hnv : val.length = nv) (hl : l.length ≤ k) :
    ∃ l', l'.length ≤ k + 1 ∧ FlipJ w w7 bm l' b kv (eSeq e) (eGone e) (eTil e) vv nk nv ∧ (∀ g, kv.ownBlock = some g ∨ vv.ownBlock = some g → ∀ x ∈ l', (nKv x).ownBlock ≠ some g ∧ (nVv x).ownBlock ≠ some g) := by
  obtain ⟨l', a1, a2, a3, a4, a5, a6⟩ := hA
  refine ⟨l', add_len a2 hl, ⟨a1, a3.block _ _ hbox (hM.sl.notM hbox (by decide) (by decide)), ⟨key, hnk, OB.mono (a3.ob hM.sl hk) hbr⟩, ⟨val, hnv, OB.mono (a3.ob hM.sl hv) hbr⟩, hB.trans a4⟩, ?_⟩
  intro g hg x hx
  have h1 : wr.heap.size ≤ g ∧ g < w6.heap.size := by
    rcases hg with hg | hg
    · exact World.ownsRow.lt hk g hg
    · exact World.ownsRow.lt hv g hg
  rcases a6 x hx with hxl | ⟨f1, f2⟩
  · obtain ⟨r1, r2⟩ := SLn.rows hr.sl.2 x hxl
    exact ⟨fun e => by have := (World.ownsRow.lt r1 g e).2; omega, fun e => by have := (World.ownsRow.lt r2 g e).2; omega⟩
  · exact ⟨fun e => by have := f1 g e; omega, fun e => by have := f2 g e; omega⟩
/-- The copies are laid into the box. -/
theorem copy_fin {w3 W : World} {b nk nv dk dx : Nat} {A B : Option Addr} {key val : List UInt8} {c0 c1 c2 c3 c4 : Value} (hb : Below w3.heap.size w3 W) (hbx : W.heap[b]? = some (.cells #[c0, c1, c2, c3, c4] 28 (0, 0))) (hk : OB W w3.heap.size (.slice A nk dk) key) (hv : OB W w3.heap.size (.slice B nv dx) val) :
    ∃ kv vv, OB ((W.setCell ⟨b, 0, none⟩ (.slice A nk dk)).setCell ⟨b, 4, none⟩ (.slice B nv dx)) w3.heap.size kv key ∧ OB ((W.setCell ⟨b, 0, none⟩ (.slice A nk dk)).setCell ⟨b, 4, none⟩ (.slice B nv dx)) w3.heap.size vv val ∧
      ((W.setCell ⟨b, 0, none⟩ (.slice A nk dk)).setCell ⟨b, 4, none⟩ (.slice B nv dx)).heap[b]? = some (.cells #[kv, c1, c2, c3, vv] 28 (0, 0)) ∧ w3.grownBy ((W.setCell ⟨b, 0, none⟩ (.slice A nk dk)).setCell ⟨b, 4, none⟩ (.slice B nv dx)) (some b) := by
  have h1 := heap_setCell_same W b 0 _ _ (.slice A nk dk) hbx
  have h2 := heap_setCell_same _ b 4 _ _ (.slice B nv dx) h1
  have g := grown_trans (grown_set W b 0 (.slice A nk dk)) (grown_set _ b 4 (.slice B nv dx))
  exact ⟨_, _, hk.other g (.inr (hk.ne_blk hbx (by decide))), hv.other g (.inr (hv.ne_blk hbx (by decide))), h2, grown_trans (below_grown hb _) g⟩
set_option maxHeartbeats 128000000 in
set_option maxRecDepth 200000 in
theorem MemApart_walk (A : Option Addr) (n c : Nat) (es : List EntR) (w : World) (h : REnts w A n es) (hc : n ≤ c) (hT : TabOK w) :
    Calls Tryd.prog 5 #[.slice A n c] w fun e w' => e = .returned (.bool true) ∧ Below w.heap.size w w' := by
  have hm := h.2.1
  have H := hid h
  have HT := hid hT
  have hx8 := hid (fun a b => xor_u8 a b)
  clear h hT
  go_enter Tryd.func5, Tryd.ntmps5
  go_wp2_with (go_at_call 16; (with_reducible refine (new_any w.heap.size w (Nat.le_refl _)).mono ?_); rintro r w1 ⟨rfl, hm1, hb1⟩; have HM1 := hid hm1; clear hm1)
  obtain ⟨bm, hbm⟩ : ∃ bm, w.heap.size = bm := ⟨_, rfl⟩
  have HBM := hid hbm
  have hm1 : MemL w1 w.heap.size bm [] := by rw [← hbm]; exact HM1.out
  have HM0 := hid hm1
  rw [hbm]
  clear hm1 hbm HM1
  go_loopw [4] (fun i wr => ∃ (k : Nat) (l : List NodeR), k ≤ n ∧ i = .int .i64 k ∧ k ≤ 40 ∧ l.length ≤ k ∧ MemL wr w.heap.size bm l ∧ Below w.heap.size w wr) (fun i wr => n - (intOf i).toNat)
  case atStart => exact ⟨0, [], Nat.zero_le _, rfl, Nat.zero_le _, Nat.le_refl _, HM0.out, hb1⟩
  case round =>
    clear HM0 hb1
    obtain ⟨k, l, hk, rfl, hk40, hlk, hM, hBr⟩ := hrel
    by_cases hlt : k < n ∧ k < 40
    · obtain ⟨hlt, h40⟩ := hlt
      obtain ⟨ad, rfl, hc1⟩ := H.out.at_ hlt
      obtain ⟨Ak, nk, ck, Av, nv, cv, a0, a1, a2, a3, a4, a5, a6, a7, a8⟩ := hc1
      have a0 := below_cell hBr a0
      have a1 := below_cell hBr a1
      have a2 := below_cell hBr a2
      have a3 := below_cell hBr a3
      have a4 := below_cell hBr a4
      generalize elt noEnt es k = x at *
      have hbn := heap_alloc_new wr (.cells #[.slice Ak nk ck, .int .i64 (eSeq x), .bool (eGone x), .int .i64 (eTil x), .slice Av nv cv] 28)
      have hbb : Below wr.heap.size wr (wr.alloc (.cells #[.slice Ak nk ck, .int .i64 (eSeq x), .bool (eGone x), .int .i64 (eTil x), .slice Av nv cv] 28)) := below_alloc' (Below.refl _ _) _
      have HM := hid hM
      have HKV := hid (⟨a5, a6⟩ : _ ∧ _)
      have HLn := hid (⟨a5.1, a6.1⟩ : _ ∧ _)
      clear hM a5 a6
      by_cases hli : nk ≤ 3000 ∧ nv ≤ 3000
      · have HLi := hid (decide_eq_true hli)
        obtain ⟨hnk, hnv⟩ := hli
        go_upto_region 8 with (go_at_call 17; (with_reducible refine (light_any Ak nk ck (eSeq x) (eGone x) (eTil x) Av nv cv _).mono ?_); rintro r w3 ⟨rfl, hb3⟩; rw [HLi.out]; have hb03 := below_then hbb hb3; have hB3 := below_then hBr hb03; have hbx3 := blk_below hb3 hbn)
        have HBox : Hid (∀ w' : World, Below w3.heap.size w3 w' → w'.heap[wr.heap.size]? = some (.cells #[.slice Ak nk ck, .int .i64 (eSeq x), .bool (eGone x), .int .i64 (eTil x), .slice Av nv cv] 28 (0, 0))) := fun w' hb => blk_below hb hbx3
        have hrk := HKV.out.1.below hB3
        have hrv := HKV.out.2.below hB3
        have HRK := hid hrk
        have HRV := hid hrv
        obtain ⟨b5, hb5⟩ : ∃ b5, wr.heap.size = b5 := ⟨_, rfl⟩
        have Hb5 := hid hb5
        rw [hb5] at hbx3 HBox ⊢
        have hBa : Below w3.heap.size w3 w3 := Below.refl _ _
        have hBd : Below w3.heap.size w3 w3.drew := (Below.refl _ _).drew
        have p0 := box_at hbx3 0 (.slice Ak nk ck) rfl
        have p4 := box_at hbx3 4 (.slice Av nv cv) rfl
        have fz := fun i => frozen_of_row w3 b5 i _ _ hbx3
        clear hrk hrv hb5 hb3 hbn
        go_cut [] (fun wx => ∃ kv vv, OB wx w3.heap.size kv (eKey x) ∧ OB wx w3.heap.size vv (eVal x) ∧ wx.heap[b5]? = some (.cells #[kv, .int .i64 (eSeq x), .bool (eGone x), .int .i64 (eTil x), vv] 28 (0, 0)) ∧ w3.grownBy wx (some b5))
        case first =>
          go_region_law (first
            | (refine stepB_append w3 _ w3.heap.size _ (.tmp 33) (by rfl) (by rfl) (.slice none 0 0) [] (by rfl) (OB.nil _ _) Ak nk ck (eKey x) (by rfl) (HRK.out.below (by assumption)) (by have := HLn.out.1; simp only [List.length_nil]; omega) (by assumption) (Below.size (by assumption)) ?_; intro vk wk hownk hBk hgk _; rw [List.nil_append] at hownk; have hgk := below_of_none hgk; obtain ⟨Bk, dk, rfl, _, _⟩ := hownk.openN nk HLn.out.1; have k0 := box_at (HBox.out _ hBk) 0 (.slice Ak nk ck) rfl; have k4 := box_at (HBox.out _ hBk) 4 (.slice Av nv cv) rfl; have fk := fun i => frozen_of_row wk b5 i _ _ (HBox.out _ hBk))
            | (refine stepB_append w3 _ w3.heap.size _ (.tmp 36) (by rfl) (by rfl) (.slice none 0 0) [] (by rfl) (OB.nil _ _) Av nv cv (eVal x) (by rfl) (HRV.out.below (by assumption)) (by have := HLn.out.2; simp only [List.length_nil]; omega) (by assumption) (Below.size (by assumption)) ?_; intro vx wx hownx hBx hgx _; rw [List.nil_append] at hownx; have hgx := below_of_none hgx; obtain ⟨Bx, dx, rfl, _, _⟩ := hownx.openN nv HLn.out.2; have x0 := box_at (HBox.out _ hBx) 0 (.slice Ak nk ck) rfl; have x4 := box_at (HBox.out _ hBx) 4 (.slice Av nv cv) rfl; have fx := fun i => frozen_of_row wx b5 i _ _ (HBox.out _ hBx)))
          all_goals
            go_wp2
            go_meet
            first
            | exact copy_fin hBx (HBox.out _ hBx) (hownk.below hgx) hownx
            | exact copy_fin hBk (HBox.out _ hBk) hownk (hownx.below hgk)
        case rest =>
          obtain ⟨kv, vv, hok, hov, hbx5, hg35⟩ := hcut
          have hb5r := Hb5.out
          have hbrc : Below wr.heap.size wr wc := hb03.grown hg35 hb03.size (fun q hq => by cases hq; omega)
          have hBc := below_then hBr hbrc
          have hbr0 := hBr.size
          have HMc := hid (HM.out.below hbrc)
          have HOk := hid (OB.mono hok hb03.size)
          have HOv := hid (OB.mono hov hb03.size)
          obtain ⟨Ak2, ck2, hkve, hrk2, _⟩ := hok.openN nk HLn.out.1
          obtain ⟨Av2, cv2, hvve, hrv2, _⟩ := hov.openN nv HLn.out.2
          subst hkve hvve
          have HRK2 := hid hrk2
          have HRV2 := hid hrv2
          have HBx5 := hid hbx5
          obtain ⟨y0, y1, y2, y3, y4⟩ := box5 hbx5
          clear hok hov hrk2 hrv2 p0 p4 fz hBa hBd HRK HRV HBox hbx3
          go_wp2_with (go_at_call 18; (with_reducible refine (add_any w.heap.size bm l Ak2 nk ck2 Av2 nv cv2 x _ HMc.out (HT.out.below hBc) HRK2.out HRV2.out (by omega)).mono ?_); rintro r w7 ⟨rfl, hadd⟩; have HFl := hid (FlipJ.mk HM.out HMc.out hadd HBx5.out hBc hbr0 HOk.out HOv.out HLn.out.1 HLn.out.2 hlk); clear hadd; obtain ⟨l', hl', hJf, hno⟩ := HFl.out; have HJf := hid hJf; have HNo := hid hno; clear hno HFl; have q0 := box_at hJf.2.1 0 (.slice Ak2 nk ck2) rfl; clear hJf)
          clear y0 y1 y2 y3 y4 hbx5 q0 HRK2 HRV2
          go_loopw [46] (fun i wr => ∃ j : Nat, j ≤ nk ∧ i = .int .i64 j ∧ FlipJ w wr bm l' b5 (.slice Ak2 nk ck2) (eSeq x) (eGone x) (eTil x) (.slice Av2 nv cv2) nk nv) (fun i wr => nk - (intOf i).toNat)
          case atStart => exact ⟨0, Nat.zero_le _, rfl, HJf.out⟩
          case round =>
            clear HJf
            obtain ⟨j, hj, rfl, hJf⟩ := hrel
            by_cases hjl : j < nk
            · obtain ⟨g, cg, hve, hgb, _, ⟨cur, hcur⟩, hcells, hfz⟩ := OBx.form hJf.2.2.1 (by omega)
              injection hve with hv1 hv2 hv3
              subst hv1 hv3
              obtain ⟨y, hy⟩ := hcells j hjl
              have hyx := (hx8.out (y.toNat : Int) 255)
              obtain ⟨y', hy'⟩ := hyx
              have HNext := hid (hJf.set (j := j) hcur hgb (HNo.out g (.inl rfl)) y')
              have q0 := box_at hJf.2.1 0 (.slice (some ⟨g, 0, none⟩) nk ck2) rfl
              clear hJf
              have hfj := hfz j
              clear hcells hfz
              go_wp2
              go_roundw
              case rel => exact ⟨j + 1, by omega, by go_num, HNext.out⟩
              case measure => simp [intOf]; omega
            · obtain rfl : j = nk := by omega
              have HJf := hid hJf
              have q4 := box_at hJf.2.1 4 (.slice Av2 nv cv2) rfl
              clear hJf
              go_wp2
              clear q4
              go_loopw [60] (fun i wr => ∃ j2 : Nat, j2 ≤ nv ∧ i = .int .i64 j2 ∧ FlipJ w wr bm l' b5 (.slice Ak2 j ck2) (eSeq x) (eGone x) (eTil x) (.slice Av2 nv cv2) j nv) (fun i wr => nv - (intOf i).toNat)
              case atStart => exact ⟨0, Nat.zero_le _, rfl, HJf.out⟩
              case round =>
                clear HJf
                obtain ⟨j2, hj2, rfl, hJf⟩ := hrel
                by_cases hjl : j2 < nv
                · obtain ⟨g, cg, hve, hgb, _, ⟨cur, hcur⟩, hcells, hfz⟩ := OBx.form hJf.2.2.2.1 (by omega)
                  injection hve with hv1 hv2 hv3
                  subst hv1 hv3
                  obtain ⟨y, hy⟩ := hcells j2 hjl
                  have hyx := (hx8.out (y.toNat : Int) 255)
                  obtain ⟨y', hy'⟩ := hyx
                  have HNext := hid (hJf.set (j := j2) hcur hgb (HNo.out g (.inr rfl)) y')
                  have q4 := box_at hJf.2.1 4 (.slice (some ⟨g, 0, none⟩) nv cv2) rfl
                  clear hJf
                  have hfj := hfz j2
                  clear hcells hfz
                  go_wp2
                  go_roundw
                  case rel => exact ⟨j2 + 1, by omega, by go_num, HNext.out⟩
                  case measure => simp [intOf]; omega
                · obtain rfl : j2 = nv := by omega
                  have HJf := hid hJf
                  clear hJf
                  go_wp2
                  go_roundw
                  case rel => exact ⟨k + 1, l', by omega, by go_num, by omega, hl', HJf.out.1, HJf.out.2.2.2.2⟩
                  case measure => simp [intOf]; omega
      · have HLi := hid (decide_eq_false hli)
        clear hli
        go_wp2_with (first
          | (go_at_call 17; (with_reducible refine (light_any Ak nk ck (eSeq x) (eGone x) (eTil x) Av nv cv _).mono ?_); rintro r w3 ⟨rfl, hb3⟩; rw [HLi.out]; have hBw3 := below_then hBr (below_then hbb hb3))
          | (go_at_call 15; (with_reducible refine (awake_any _ (HT.out.below hBw3)).mono ?_); rintro r w9 ⟨rfl, hb9⟩; have hB9' := below_then hBw3 hb9))
        go_ret
        exact ⟨rfl, hB9'⟩
    · have HM := hid hM
      have hlm : (l.map nEnt).length = l.length := List.length_map _
      have HP3 := hid (fun (w3 : World) (hb : Below wr.heap.size wr w3) => all_any w.heap.size bm l w3 (HM.out.below hb) (by omega))
      clear hM
      obtain ⟨La, hLa⟩ : ∃ La, l.map nEnt = La := ⟨_, rfl⟩
      rw [hLa] at HP3 hlm
      obtain ⟨m, hm0⟩ : ∃ m, La.length = m := ⟨_, rfl⟩
      have hm40 : m ≤ 40 := by omega
      have HM0 := hid hm0
      clear hLa hlm
      by_cases hz : k < n
      · have hz2 : ¬ k < 40 := fun h => hlt ⟨hz, h⟩
        have hd1 : decide ((k : Int) < 40) = false := decide_eq_false (by omega)
        have hd2 : decide ((k : Int) < (n : Int)) = true := decide_eq_true (by omega)
        clear hlt
        go_wp2_with (first
          | (go_at_call 21; (with_reducible refine (HP3.out _ (Below.refl _ _)).mono ?_); rintro r w8 hl3; obtain ⟨A8, c8, V8, rfl, hv8, hr8, hre8, hb8⟩ := hl3.rowP (by omega); rw [hm0] at hre8 ⊢; have HRe8 := hid hre8; clear hv8 hr8 hre8 hl3)
          | (go_at_call 21; (with_reducible refine (HP3.out _ hb8).mono ?_); rintro r w9 hl4; obtain ⟨A9, c9, V9, rfl, hv9, hr9, hre9, hb9⟩ := hl4.rowP (by omega); rw [hm0] at hv9 ⊢; have HTl : Hid (TellJ w8 w9 (.slice A9 m c9) V9 La) := hid ⟨hv9, hr9.mono fun x a hx => hx.ex, hb9⟩; clear hv9 hr9 hre9 hl4))
        clear hb9
        go_loopw [76] (fun i wr => ∃ q : Nat, q ≤ m ∧ i = .int .i64 q ∧ TellJ w8 wr (.slice A9 m c9) V9 La) (fun i wr => m - (intOf i).toNat)
        case atStart => exact ⟨0, Nat.zero_le _, rfl, HTl.out⟩
        case round =>
          clear HTl
          obtain ⟨q, hq, rfl, hTl⟩ := hrel
          have HTl := hid hTl
          by_cases hql : q < m
          · have hVl : V9.length = m := by rw [hTl.2.1.1, HM0.out]
            obtain ⟨gv, cv9, hve, _, _, _⟩ := hTl.1.form (by rw [hVl]; omega)
            injection hve with hve1 hve2 hve3
            subst hve1 hve3
            have hv1' : OV wr w8.heap.size 28 5 (.slice (some ⟨gv, 0, none⟩) V9.length c9) V9 := by rw [hVl]; exact hTl.1
            have hcell := fun i (hi : i < 5) => hv1'.cell (j := q) (i := i) (by omega) hi
            obtain ⟨kv, vv, hxe, hok, hov⟩ := hTl.2.1.2 q (by omega)
            rw [hxe] at hcell
            have c0 := hcell 0 (by omega)
            have c1' := hcell 1 (by omega)
            have c2 := hcell 2 (by omega)
            have c3 := hcell 3 (by omega)
            have c4 := hcell 4 (by omega)
            simp only [List.getElem?_cons_zero, List.getElem?_cons_succ, Nat.add_zero] at c0 c1' c2 c3 c4
            generalize elt noEnt La q = x at *
            obtain ⟨nk, hnk⟩ : ∃ nk, (eKey x).length = nk := ⟨_, rfl⟩
            obtain ⟨nv, hnv⟩ : ∃ nv, (eVal x).length = nv := ⟨_, rfl⟩
            rw [hnk] at hok
            rw [hnv] at hov
            obtain ⟨Ak2, ck2, hkve⟩ := hok.open_
            obtain ⟨Av2, cv2, hvve⟩ := hov.open_
            subst hkve hvve
            have hkm : nk ≤ 9223372036854775807 := by
              obtain ⟨ys, h1, h2⟩ := hok
              have := h2.rb.1.2.1
              omega
            have hvm : nv ≤ 9223372036854775807 := by
              obtain ⟨ys, h1, h2⟩ := hov
              have := h2.rb.1.2.1
              omega
            have hbb : Below wr.heap.size wr (wr.alloc (.cells #[.slice Ak2 nk ck2, .int .i64 (eSeq x), .bool (eGone x), .int .i64 (eTil x), .slice Av2 nv cv2] 28)) := below_alloc' (Below.refl _ _) _
            have HJt : Hid (BoxT w8 (wr.alloc (.cells #[.slice Ak2 nk ck2, .int .i64 (eSeq x), .bool (eGone x), .int .i64 (eTil x), .slice Av2 nv cv2] 28)) (.slice (some ⟨gv, 0, none⟩) m c9) V9 La wr.heap.size (.slice Ak2 nk ck2) (eSeq x) (eGone x) (eTil x) (.slice Av2 nv cv2) nk nv) := ⟨HTl.out.below hbb, heap_alloc_new wr _, hok.below hbb, hov.below hbb⟩
            clear hok hov hcell hxe hv1' hVl hTl hnk hnv hbb HTl
            go_wp2
            obtain ⟨bx, hbx⟩ : ∃ bx, wr.heap.size = bx := ⟨_, rfl⟩
            rw [hbx] at HJt ⊢
            clear hbx c0 c1' c2 c3 c4
            go_loopw [83] (fun i wr => ∃ j : Nat, j ≤ nk ∧ i = .int .i64 j ∧ BoxT w8 wr (.slice (some ⟨gv, 0, none⟩) m c9) V9 La bx (.slice Ak2 nk ck2) (eSeq x) (eGone x) (eTil x) (.slice Av2 nv cv2) nk nv) (fun i wr => nk - (intOf i).toNat)
            case atStart => exact ⟨0, Nat.zero_le _, rfl, HJt.out⟩
            case round =>
              clear HJt
              obtain ⟨j, hj, rfl, hJf⟩ := hrel
              by_cases hjl : j < nk
              · obtain ⟨g, cg, hve, hgb, _, ⟨cur, hcur⟩, hcells, hfz⟩ := OBx.form hJf.2.2.1 (by omega)
                injection hve with hv1 hv2 hv3
                subst hv1 hv3
                obtain ⟨y, hy⟩ := hcells j hjl
                have hyx := (hx8.out (y.toNat : Int) 255)
                obtain ⟨y', hy'⟩ := hyx
                have HNext := hid (hJf.set (j := j) hcur hgb y')
                have q0 := box_at hJf.2.1 0 (.slice (some ⟨g, 0, none⟩) nk ck2) rfl
                clear hJf
                have hfj := hfz j
                clear hcells hfz
                go_wp2
                go_roundw
                case rel => exact ⟨j + 1, by omega, by go_num, HNext.out⟩
                case measure => simp [intOf]; omega
              · obtain rfl : j = nk := by omega
                have HJf := hid hJf
                have q4 := box_at hJf.2.1 4 (.slice Av2 nv cv2) rfl
                clear hJf
                go_wp2
                clear q4
                go_loopw [97] (fun i wr => ∃ j2 : Nat, j2 ≤ nv ∧ i = .int .i64 j2 ∧ BoxT w8 wr (.slice (some ⟨gv, 0, none⟩) m c9) V9 La bx (.slice Ak2 j ck2) (eSeq x) (eGone x) (eTil x) (.slice Av2 nv cv2) j nv) (fun i wr => nv - (intOf i).toNat)
                case atStart => exact ⟨0, Nat.zero_le _, rfl, HJf.out⟩
                case round =>
                  clear HJf
                  obtain ⟨j2, hj2, rfl, hJf⟩ := hrel
                  by_cases hjl : j2 < nv
                  · obtain ⟨g, cg, hve, hgb, _, ⟨cur, hcur⟩, hcells, hfz⟩ := OBx.form hJf.2.2.2 (by omega)
                    injection hve with hv1 hv2 hv3
                    subst hv1 hv3
                    obtain ⟨y, hy⟩ := hcells j2 hjl
                    have hyx := (hx8.out (y.toNat : Int) 255)
                    obtain ⟨y', hy'⟩ := hyx
                    have HNext := hid (hJf.set (j := j2) hcur hgb y')
                    have q4 := box_at hJf.2.1 4 (.slice (some ⟨g, 0, none⟩) nv cv2) rfl
                    clear hJf
                    have hfj := hfz j2
                    clear hcells hfz
                    go_wp2
                    go_roundw
                    case rel => exact ⟨j2 + 1, by omega, by go_num, HNext.out⟩
                    case measure => simp [intOf]; omega
                  · obtain rfl : j2 = nv := by omega
                    have HJf := hid hJf
                    clear hJf
                    go_wp2
                    go_roundw
                    case rel => exact ⟨q + 1, by omega, by go_num, HJf.out.1⟩
                    case measure => simp [intOf]; omega
          · obtain rfl : q = m := by omega
            have hb8q := hTl.2.2
            have hB8 := below_then hBr hb8
            have HRe := hid (HRe8.out.below hb8q)
            clear HRe8 HTl hTl
            go_wp2_with (first
              | (go_at_call 21; (with_reducible refine (HP3.out _ (below_then hb8 hb8q)).mono ?_); rintro r w10 hl5; obtain ⟨A10, c10, V10, rfl, hv10, hr10, hre10, hb10⟩ := hl5.rowP (by omega); rw [hm0] at hre10 ⊢; have HRe10 := hid hre10; have HRe11 := hid (HRe.out.below hb10); have hB10 := below_then hB8 (below_then hb8q hb10); clear hv10 hr10 hre10 hl5)
              | (go_at_call 20; (with_reducible refine (sameentries_any A8 c8 A10 c10 q La w10 HRe11.out HRe10.out).mono ?_); rintro r w11 ⟨rfl, hb11⟩; have hB11 := below_then hB10 hb11)
              | (go_at_call 15; (with_reducible refine (awake_any _ (HT.out.below hB11)).mono ?_); rintro r w12 ⟨rfl, hb12⟩; have hB12 := below_then hB11 hb12))
            go_ret
            exact ⟨rfl, hB12⟩
      · have hd2 : decide ((k : Int) < (n : Int)) = false := decide_eq_false (by omega)
        clear hlt
        go_wp2_with (first
          | (go_at_call 21; (with_reducible refine (HP3.out _ (Below.refl _ _)).mono ?_); rintro r w8 hl3; obtain ⟨A8, c8, V8, rfl, hv8, hr8, hre8, hb8⟩ := hl3.rowP (by omega); rw [hm0] at hre8 ⊢; have HRe8 := hid hre8; clear hv8 hr8 hre8 hl3)
          | (go_at_call 21; (with_reducible refine (HP3.out _ hb8).mono ?_); rintro r w9 hl4; obtain ⟨A9, c9, V9, rfl, hv9, hr9, hre9, hb9⟩ := hl4.rowP (by omega); rw [hm0] at hv9 ⊢; have HTl : Hid (TellJ w8 w9 (.slice A9 m c9) V9 La) := hid ⟨hv9, hr9.mono fun x a hx => hx.ex, hb9⟩; clear hv9 hr9 hre9 hl4))
        clear hb9
        go_loopw [76] (fun i wr => ∃ q : Nat, q ≤ m ∧ i = .int .i64 q ∧ TellJ w8 wr (.slice A9 m c9) V9 La) (fun i wr => m - (intOf i).toNat)
        case atStart => exact ⟨0, Nat.zero_le _, rfl, HTl.out⟩
        case round =>
          clear HTl
          obtain ⟨q, hq, rfl, hTl⟩ := hrel
          have HTl := hid hTl
          by_cases hql : q < m
          · have hVl : V9.length = m := by rw [hTl.2.1.1, HM0.out]
            obtain ⟨gv, cv9, hve, _, _, _⟩ := hTl.1.form (by rw [hVl]; omega)
            injection hve with hve1 hve2 hve3
            subst hve1 hve3
            have hv1' : OV wr w8.heap.size 28 5 (.slice (some ⟨gv, 0, none⟩) V9.length c9) V9 := by rw [hVl]; exact hTl.1
            have hcell := fun i (hi : i < 5) => hv1'.cell (j := q) (i := i) (by omega) hi
            obtain ⟨kv, vv, hxe, hok, hov⟩ := hTl.2.1.2 q (by omega)
            rw [hxe] at hcell
            have c0 := hcell 0 (by omega)
            have c1' := hcell 1 (by omega)
            have c2 := hcell 2 (by omega)
            have c3 := hcell 3 (by omega)
            have c4 := hcell 4 (by omega)
            simp only [List.getElem?_cons_zero, List.getElem?_cons_succ, Nat.add_zero] at c0 c1' c2 c3 c4
            generalize elt noEnt La q = x at *
            obtain ⟨nk, hnk⟩ : ∃ nk, (eKey x).length = nk := ⟨_, rfl⟩
            obtain ⟨nv, hnv⟩ : ∃ nv, (eVal x).length = nv := ⟨_, rfl⟩
            rw [hnk] at hok
            rw [hnv] at hov
            obtain ⟨Ak2, ck2, hkve⟩ := hok.open_
            obtain ⟨Av2, cv2, hvve⟩ := hov.open_
            subst hkve hvve
            have hkm : nk ≤ 9223372036854775807 := by
              obtain ⟨ys, h1, h2⟩ := hok
              have := h2.rb.1.2.1
              omega
            have hvm : nv ≤ 9223372036854775807 := by
              obtain ⟨ys, h1, h2⟩ := hov
              have := h2.rb.1.2.1
              omega
            have hbb : Below wr.heap.size wr (wr.alloc (.cells #[.slice Ak2 nk ck2, .int .i64 (eSeq x), .bool (eGone x), .int .i64 (eTil x), .slice Av2 nv cv2] 28)) := below_alloc' (Below.refl _ _) _
            have HJt : Hid (BoxT w8 (wr.alloc (.cells #[.slice Ak2 nk ck2, .int .i64 (eSeq x), .bool (eGone x), .int .i64 (eTil x), .slice Av2 nv cv2] 28)) (.slice (some ⟨gv, 0, none⟩) m c9) V9 La wr.heap.size (.slice Ak2 nk ck2) (eSeq x) (eGone x) (eTil x) (.slice Av2 nv cv2) nk nv) := ⟨HTl.out.below hbb, heap_alloc_new wr _, hok.below hbb, hov.below hbb⟩
            clear hok hov hcell hxe hv1' hVl hTl hnk hnv hbb HTl
            go_wp2
            obtain ⟨bx, hbx⟩ : ∃ bx, wr.heap.size = bx := ⟨_, rfl⟩
            rw [hbx] at HJt ⊢
            clear hbx c0 c1' c2 c3 c4
            go_loopw [83] (fun i wr => ∃ j : Nat, j ≤ nk ∧ i = .int .i64 j ∧ BoxT w8 wr (.slice (some ⟨gv, 0, none⟩) m c9) V9 La bx (.slice Ak2 nk ck2) (eSeq x) (eGone x) (eTil x) (.slice Av2 nv cv2) nk nv) (fun i wr => nk - (intOf i).toNat)
            case atStart => exact ⟨0, Nat.zero_le _, rfl, HJt.out⟩
            case round =>
              clear HJt
              obtain ⟨j, hj, rfl, hJf⟩ := hrel
              by_cases hjl : j < nk
              · obtain ⟨g, cg, hve, hgb, _, ⟨cur, hcur⟩, hcells, hfz⟩ := OBx.form hJf.2.2.1 (by omega)
                injection hve with hv1 hv2 hv3
                subst hv1 hv3
                obtain ⟨y, hy⟩ := hcells j hjl
                have hyx := (hx8.out (y.toNat : Int) 255)
                obtain ⟨y', hy'⟩ := hyx
                have HNext := hid (hJf.set (j := j) hcur hgb y')
                have q0 := box_at hJf.2.1 0 (.slice (some ⟨g, 0, none⟩) nk ck2) rfl
                clear hJf
                have hfj := hfz j
                clear hcells hfz
                go_wp2
                go_roundw
                case rel => exact ⟨j + 1, by omega, by go_num, HNext.out⟩
                case measure => simp [intOf]; omega
              · obtain rfl : j = nk := by omega
                have HJf := hid hJf
                have q4 := box_at hJf.2.1 4 (.slice Av2 nv cv2) rfl
                clear hJf
                go_wp2
                clear q4
                go_loopw [97] (fun i wr => ∃ j2 : Nat, j2 ≤ nv ∧ i = .int .i64 j2 ∧ BoxT w8 wr (.slice (some ⟨gv, 0, none⟩) m c9) V9 La bx (.slice Ak2 j ck2) (eSeq x) (eGone x) (eTil x) (.slice Av2 nv cv2) j nv) (fun i wr => nv - (intOf i).toNat)
                case atStart => exact ⟨0, Nat.zero_le _, rfl, HJf.out⟩
                case round =>
                  clear HJf
                  obtain ⟨j2, hj2, rfl, hJf⟩ := hrel
                  by_cases hjl : j2 < nv
                  · obtain ⟨g, cg, hve, hgb, _, ⟨cur, hcur⟩, hcells, hfz⟩ := OBx.form hJf.2.2.2 (by omega)
                    injection hve with hv1 hv2 hv3
                    subst hv1 hv3
                    obtain ⟨y, hy⟩ := hcells j2 hjl
                    have hyx := (hx8.out (y.toNat : Int) 255)
                    obtain ⟨y', hy'⟩ := hyx
                    have HNext := hid (hJf.set (j := j2) hcur hgb y')
                    have q4 := box_at hJf.2.1 4 (.slice (some ⟨g, 0, none⟩) nv cv2) rfl
                    clear hJf
                    have hfj := hfz j2
                    clear hcells hfz
                    go_wp2
                    go_roundw
                    case rel => exact ⟨j2 + 1, by omega, by go_num, HNext.out⟩
                    case measure => simp [intOf]; omega
                  · obtain rfl : j2 = nv := by omega
                    have HJf := hid hJf
                    clear hJf
                    go_wp2
                    go_roundw
                    case rel => exact ⟨q + 1, by omega, by go_num, HJf.out.1⟩
                    case measure => simp [intOf]; omega
          · obtain rfl : q = m := by omega
            have hb8q := hTl.2.2
            have hB8 := below_then hBr hb8
            have HRe := hid (HRe8.out.below hb8q)
            clear HRe8 HTl hTl
            go_wp2_with (first
              | (go_at_call 21; (with_reducible refine (HP3.out _ (below_then hb8 hb8q)).mono ?_); rintro r w10 hl5; obtain ⟨A10, c10, V10, rfl, hv10, hr10, hre10, hb10⟩ := hl5.rowP (by omega); rw [hm0] at hre10 ⊢; have HRe10 := hid hre10; have HRe11 := hid (HRe.out.below hb10); have hB10 := below_then hB8 (below_then hb8q hb10); clear hv10 hr10 hre10 hl5)
              | (go_at_call 20; (with_reducible refine (sameentries_any A8 c8 A10 c10 q La w10 HRe11.out HRe10.out).mono ?_); rintro r w11 ⟨rfl, hb11⟩; have hB11 := below_then hB10 hb11)
              | (go_at_call 15; (with_reducible refine (awake_any _ (HT.out.below hB11)).mono ?_); rintro r w12 ⟨rfl, hb12⟩; have hB12 := below_then hB11 hb12))
            go_ret
            exact ⟨rfl, hB12⟩
end Go.Proofs.YtlfjbklagljdlaaDoor
