/- Shared texts, part S34: TbK. -/
import Derived.Test.YtkkclkknpjapcaaDoorS30
/-! ### TbK -/
namespace Go.Proofs.YtkkclkknpjapcaaDoor
open Go.RowKit
set_option linter.unusedVariables false
set_option linter.unusedSimpArgs false

set_option maxHeartbeats 64000000 in
set_option maxRecDepth 200000 in
theorem open_any (A : Option Addr) (n c : Nat) (xs : List UInt8) (w : World) (h : RB w A n xs) (hc : n ≤ c) (hsz : n ≤ 100000000) :
    Calls Tryd.prog 9 #[.slice A n c] w fun r w' => OpnC w w' xs r := by
  have hl := h.1
  have H := hid h
  clear h
  have HB0 : Hid (∀ q, Below w.heap.size w (w.drewN q)) := hid (fun q => below_drewN (Below.refl _ _) q)
  by_cases h32 : n < 32
  · have HD : Hid (openF xs = none) := hid (open_not fun e => by have := (head_iff.1 e).1; omega)
    have hd : decide ((n : Int) < 32) = true := decide_eq_true (by omega)
    clear hl
    go_enter Tryd.func9, Tryd.ntmps9
    go_wp2
    go_ret2
    exact OpnC.no HD.out 5 (by omega) (Below.refl _ _)
  have hd : decide ((n : Int) < 32) = false := decide_eq_false (by omega)
  obtain ⟨N, hN⟩ : ∃ N : Nat, (n : Int) - 32 = (N : Int) := ⟨n - 32, by omega⟩
  have hNn : xs.length - 32 = N := by omega
  obtain ⟨cb, hcutb, hrbb, hcb⟩ := cutB_hi (A := A) hc (hi := N) (by omega) (N : Int) rfl
  obtain ⟨Af, cf, hcutf, hrbf, hcf⟩ := cutB_lo (A := A) hc (lo := N) (by omega) (N : Int) rfl
  rw [show n - N = 32 by omega] at hcutf hrbf hcf
  obtain ⟨Ag, cg, hcutg, hrbg, hcg⟩ := cutB_lo (A := Af) hcf (lo := 24) (by omega) (24 : Int) rfl
  have HBd : Hid (RB w A N (bodyOf xs)) := hid (by unfold bodyOf; rw [hNn]; exact hrbb _ _ H.out)
  have HFt : Hid (RB w Af 32 (footOf xs)) := hid (by unfold footOf; rw [hNn]; exact hrbf _ _ H.out)
  have hbl : (bodyOf xs).length = N := HBd.out.1
  have hNle : N ≤ 100000000 := by omega
  have HG := hid (hrbg _ _ HFt.out)
  have hcv := fun q => (HG.out.drewN q).conv cg
  have HHd : Hid (headOK xs = true ↔ ((footOf xs).drop 24 = magicB ∧ soundB (footOf xs) 0 20 = true ∧ (withinB N (numOf xs 0) (numOf xs 1) = true ∧ withinB N (numOf xs 2) (numOf xs 3) = true) ∧ (soundB (bodyOf xs) (numOf xs 0) (numOf xs 1) = true ∧ soundB (bodyOf xs) (numOf xs 2) (numOf xs 3) = true))) := hid (by
    rw [head_iff, hbl]
    exact ⟨fun h => h.2, fun h => ⟨by omega, h⟩⟩)
  have HL := hid hl
  clear hrbb hrbf hrbg hNn hbl hl
  by_cases hmg : (footOf xs).drop 24 = magicB
  case neg =>
    have HD : Hid (openF xs = none) := hid (open_not fun e => hmg (HHd.out.1 e).1)
    obtain ⟨hs1, hs2⟩ := magic_no hmg
    clear hmg
    go_enter Tryd.func9, Tryd.ntmps9
    go_wp2
    go_quiet (fail)
    go_wp2
    go_ret2
    exact OpnC.no HD.out 3 (by omega) (HB0.out _)
  obtain ⟨hs1, hs2⟩ := magic_yes hmg
  have HMg := hid hmg
  have HPf : Hid (∀ q, Calls Tryd.prog 35 #[.slice Af 32 cf, .int .u64 0, .int .u64 20] (w.drewN q) fun e w' => PcC (w.drewN q) w' (footOf xs) 0 20 e) := hid (fun q => piece_any Af 32 cf (footOf xs) 0 20 _ (HFt.out.drewN q) hcf (by omega) (by omega))
  clear hmg
  cases hs0 : soundB (footOf xs) 0 20
  case false =>
    have HD : Hid (openF xs = none) := hid (open_not fun e => by have := (HHd.out.1 e).2.1; rw [hs0] at this; cases this)
    have HS := hid hs0
    clear hs0
    go_enter Tryd.func9, Tryd.ntmps9
    go_wp2
    go_quiet (fail)
    go_wp2_with (go_at_call 35; refine (HPf.out _).mono ?_; rintro e w1 ⟨A1, c1, rfl, hr1, hc1, rfl⟩; rw [HS.out])
    go_ret2
    exact OpnC.no HD.out 4 (by omega) (HB0.out _)
  have HS := hid hs0
  have hx0 := fun q => heap_alloc_new (w.drewN q) (.cells #[.int .u64 0, .int .u64 0, .int .u64 0, .int .u64 0, .int .u64 0] 71)
  have HX0 := hid hx0
  clear hs0 hx0
  go_enter Tryd.func9, Tryd.ntmps9
  go_wp2
  go_quiet (fail)
  go_wp2_with (go_at_call 35; refine (HPf.out _).mono ?_; rintro e w1 ⟨A1, c1, rfl, hr1, hc1, rfl⟩; rw [HS.out])
  have HSx : Hid (soundB (footOf xs) 0 20 = true ∧ True) := hid ⟨HS.out, trivial⟩
  clear hs1 hs2 hcv hcutg hcutb hd hN HPf HG HS
  obtain ⟨bn, hbn⟩ : ∃ b, w.heap.size = b := ⟨_, rfl⟩
  have HBn := hid hbn
  rw [hbn]
  go_loopw [43] (fun i wr => ∃ k : Nat, k ≤ 5 ∧ i = .int .i64 k ∧ wr.heap[bn]? = some (.cells (boxU xs k) 71 (0, 0)) ∧ Below w.heap.size w wr) (fun i _ => 5 - (intOf i).toNat)
  case atStart => exact ⟨0, by omega, rfl, by rw [← hbn]; exact HX0.out _, below_alloc' (HB0.out _) _⟩
  case round =>
    obtain ⟨k, hk, rfl, hbx, hB⟩ := hrel
    clear hbn
    by_cases hk5 : k < 5
    · obtain ⟨A3, c3, hcut3, hrb3, hc3⟩ := cutB_lo (A := Af) hcf (lo := 4 * k) (by omega) (4 * (k : Int)) (by omega)
      obtain ⟨M, hM⟩ : ∃ M, 32 - 4 * k = M := ⟨_, rfl⟩
      rw [hM] at hcut3 hrb3 hc3
      have HRd := hid (read_any A3 M c3 ((footOf xs).drop (4 * k)) 4 wr (hrb3 _ _ (HFt.out.below hB)) hc3 (by omega))
      have hlen : ((footOf xs).drop (4 * k)).length = M := (hrb3 _ _ HFt.out).1
      rw [readB_4 (by omega), show readU (((footOf xs).drop (4 * k)).take 4) = numOf xs k from rfl] at HRd
      have h0 := box_ex hk5 hbx
      have hf := fun i => frozen_of_row wr bn i _ _ hbx
      have HN := hid (boxU_next hk5 hbx)
      have HBl : Hid (Below w.heap.size w (wr.setCell ⟨bn, k, none⟩ (.int .u64 (numOf xs k : Int)))) := hid (hB.setCell (show w.heap.size ≤ (⟨bn, k, none⟩ : Addr).block from Nat.le_of_eq HBn.out) _)
      have hcutk := fun u => hcut3 u
      clear hrb3 hlen hbx hM hcut3
      generalize numOf xs k = X at *
      generalize nvU xs k k = Y at *
      go_wp2_with (go_at_call 36; refine (HRd.out).mono ?_; rintro e w6 ⟨rfl, rfl⟩)
      go_roundw
      case rel => exact ⟨k + 1, by omega, by go_num, HN.out, HBl.out⟩
      case measure => simp [intOf]; omega
    obtain rfl : k = 5 := by omega
    obtain ⟨q0, q1, q2, q3⟩ := boxU_cells hbx
    have hb0 := numOf_lt xs 0
    have hb1 := numOf_lt xs 1
    have hb2 := numOf_lt xs 2
    have hb3 := numOf_lt xs 3
    have HGo : Hid (headOK xs = true → openF xs = (plcL (numOf xs 1 + 1) (cutS (bodyOf xs) (numOf xs 0) (numOf xs 1)) (numOf xs 0)).bind fun ps => (readT (bodyOf xs) ps).bind fun es => if fitTB es = true ∧ tabB es = xs then some es else none) := hid open_go
    have HFl : Hid (∀ es, openF xs = some es → cutS (bodyOf xs) (numOf xs 2) (numOf xs 3) = filtB es) := hid (fun es h => open_filt h)
    have HNl : Hid ((cutS (bodyOf xs) (numOf xs 0) (numOf xs 1)).length = numOf xs 1 → True) := hid (fun _ => trivial)
    generalize numOf xs 0 = n0 at *
    generalize numOf xs 1 = n1 at *
    generalize numOf xs 2 = n2 at *
    generalize numOf xs 3 = n3 at *
    clear HX0 hcutf
    have HB := hid hB
    have hbx2 := hbx
    have HBx := hid hbx
    clear hbx hbx2
    have HW1 := hid (within_any A N cb n0 n1 wr (by omega) (by omega) (by omega))
    have HW2 := hid (within_any A N cb n2 n3 wr (by omega) (by omega) (by omega))
    cases hw1 : withinB N n0 n1
    case false =>
      have HD : Hid (openF xs = none) := hid (open_not fun e => by have := (HHd.out.1 e).2.2.1.1; rw [hw1] at this; cases this)
      rw [hw1] at HW1
      clear hw1
      go_wp2_with (go_at_call 37; refine (HW1.out).mono ?_; rintro e w6 ⟨rfl, rfl⟩)
      go_ret2
      exact OpnC.no HD.out 3 (by omega) HB.out
    cases hw2 : withinB N n2 n3
    case false =>
      have HD : Hid (openF xs = none) := hid (open_not fun e => by have := (HHd.out.1 e).2.2.1.2; rw [hw2] at this; cases this)
      rw [hw1] at HW1
      rw [hw2] at HW2
      clear hw1 hw2
      go_wp2_with (first
        | (go_at_call 37; (with_reducible refine (HW1.out).mono ?_); rintro e w6 ⟨rfl, rfl⟩)
        | (go_at_call 37; (with_reducible refine (HW2.out).mono ?_); rintro e w6 ⟨rfl, rfl⟩))
      go_ret2
      exact OpnC.no HD.out 3 (by omega) HB.out
    have hi1 := withinB_le hw1
    have hi2 := withinB_le hw2
    have HP1 := hid (piece_any A N cb (bodyOf xs) n0 n1 wr (HBd.out.below hB) hcb hi1 (by omega))
    have HP2 := hid (piece_any A N cb (bodyOf xs) n2 n3 wr (HBd.out.below hB) hcb hi2 (by omega))
    rw [hw1] at HW1
    rw [hw2] at HW2
    have HHd2 : Hid (headOK xs = true ↔ (soundB (bodyOf xs) n0 n1 = true ∧ soundB (bodyOf xs) n2 n3 = true)) := hid (by
      rw [HHd.out, hw1, hw2, HSx.out.1]
      exact ⟨fun h => h.2.2.2, fun h => ⟨HMg.out, rfl, ⟨rfl, rfl⟩, h⟩⟩)
    clear hw1 hw2 HHd
    cases hp1 : soundB (bodyOf xs) n0 n1
    case false =>
      have HD : Hid (openF xs = none) := hid (open_not fun e => by have := (HHd2.out.1 e).1; rw [hp1] at this; cases this)
      have HS1 := hid hp1
      clear hp1
      go_wp2_with (first
        | (go_at_call 37; (with_reducible refine (HW1.out).mono ?_); rintro e w6 ⟨rfl, rfl⟩)
        | (go_at_call 37; (with_reducible refine (HW2.out).mono ?_); rintro e w6 ⟨rfl, rfl⟩)
        | (go_at_call 35; (with_reducible refine (HP1.out).mono ?_); rintro e w6 ⟨A6, c6, rfl, hr6, hc6, rfl⟩; rw [HS1.out])
        | (go_at_call 35; (with_reducible refine (HP2.out).mono ?_); rintro e w7 ⟨A7, c7, rfl, hr7, hc7, rfl⟩))
      go_ret2
      exact OpnC.no HD.out 4 (by omega) HB.out
    cases hp2 : soundB (bodyOf xs) n2 n3
    case false =>
      have HD : Hid (openF xs = none) := hid (open_not fun e => by have := (HHd2.out.1 e).2; rw [hp2] at this; cases this)
      have HS1 := hid hp1
      have HS2 := hid hp2
      clear hp1 hp2
      go_wp2_with (first
        | (go_at_call 37; (with_reducible refine (HW1.out).mono ?_); rintro e w6 ⟨rfl, rfl⟩)
        | (go_at_call 37; (with_reducible refine (HW2.out).mono ?_); rintro e w6 ⟨rfl, rfl⟩)
        | (go_at_call 35; (with_reducible refine (HP1.out).mono ?_); rintro e w6 ⟨A6, c6, rfl, hr6, hc6, hww6⟩; subst hww6; rw [HS1.out]; have HR6x := hid hr6; clear hr6)
        | (go_at_call 35; (with_reducible refine (HP2.out).mono ?_); rintro e w7 ⟨A7, c7, rfl, hr7, hc7, hww7⟩; subst hww7; rw [HS2.out]; have HR7x := hid hr7; clear hr7)
      )
      go_ret2
      exact OpnC.no HD.out 4 (by omega) HB.out
    have hO := HGo.out (HHd2.out.2 ⟨hp1, hp2⟩)
    have HS1 := hid hp1
    have HS2 := hid hp2
    obtain ⟨ci, hcuti, hrbi, hci⟩ := cutBu_hi (A := A) hcb (hi := n0) (by omega) (n0 : Int) rfl
    obtain ⟨XI, hXI⟩ : ∃ X, cutS (bodyOf xs) n0 n1 = X := ⟨_, rfl⟩
    obtain ⟨XF, hXF⟩ : ∃ X, cutS (bodyOf xs) n2 n3 = X := ⟨_, rfl⟩
    rw [hXI] at hO
    have HXI := hid hXI
    have HXF := hid hXF
    have hxil : XI.length = n1 := by rw [← hXI]; unfold cutS; rw [List.length_take, List.length_drop, HBd.out.1]; omega
    have HXl := hid hxil
    obtain ⟨PL, hPL⟩ : ∃ P, plcL (n1 + 1) XI n0 = P := ⟨_, rfl⟩
    rw [hPL] at hO
    have HPL : Hid (plcL (XI.length + 1) XI n0 = PL) := hid (by rw [hxil]; exact hPL)
    have HO := hid hO
    clear hp1 hp2 hO hXI hXF hxil hPL HGo HHd2 hrbi
    have hgw := HBn.out
    cases PL with
    | none =>
      have HD : Hid (openF xs = none) := hid (by rw [HO.out]; rfl)
      go_wp2_with (first
        | (go_at_call 37; (with_reducible refine (HW1.out).mono ?_); rintro e w6 ⟨rfl, rfl⟩)
        | (go_at_call 37; (with_reducible refine (HW2.out).mono ?_); rintro e w6 ⟨rfl, rfl⟩)
        | (go_at_call 35; (with_reducible refine (HP1.out).mono ?_); rintro e w6 ⟨A6, c6, rfl, hr6, hc6, hww6⟩; subst hww6; rw [HS1.out]; have HR6x := hid hr6; clear hr6)
        | (go_at_call 35; (with_reducible refine (HP2.out).mono ?_); rintro e w7 ⟨A7, c7, rfl, hr7, hc7, hww7⟩; subst hww7; rw [HS2.out]; have HR7x := hid hr7; clear hr7)
        | (at_builtin; refine wpB_append w wr w.heap.size rfl (.const (.slice none 0 0)) (.tmp 97) rfl _ [] rfl (OB.nil _ _) A7 n3 c7 XF rfl (by rw [← HXF.out]; exact HR7x.out) (by have := (HR7x.out).1; rw [HXF.out] at this; simp; omega) HB.out HB.out.size ?_; intro v8 w8 hown8 hB8 hg8 _; obtain ⟨A8, c8, rfl, _, _⟩ := OB.open_ (xs := XF) hown8; have HB8 := hid hB8; have HC8 : Hid (Below wr.heap.size wr w8) := hid (below_of_nil hg8); have HO8 : Hid (OB w8 w.heap.size (.slice A8 XF.length c8) XF) := hid hown8; have HB9 := hid (below_alloc' hB8 (.cells #[.slice none 0 0, .slice A8 XF.length c8] 76)); have HC9 := hid (below_alloc' (Below.refl w8.heap.size w8) (.cells #[.slice none 0 0, .slice A8 XF.length c8] 76)); have HBx9 := hid (heap_alloc_new w8 (.cells #[.slice none 0 0, .slice A8 XF.length c8] 76)); have HR6 : Hid (RB wr A6 n1 XI) := hid (by rw [← HXI.out]; exact HR6x.out); have HBt : Hid (w.heap.size ≤ w8.heap.size) := hid hB8.size; have q09 := below_cell (below_then HC8.out HC9.out) q0; clear hown8 hB8 hg8)
        | (go_at_call 38; (with_reducible refine (places_any' A6 n1 c6 XI A n0 ci _ (HR6.out.below (below_then HC8.out HC9.out)) hc6 (by omega) (by omega)).mono ?_); intro r w10 hpc; unfold PlcC at hpc; rw [HPL.out] at hpc; obtain ⟨rfl, hb10⟩ := hpc; have HB10 := hid (below_then HB9.out hb10)))
      go_ret2
      exact OpnC.no HD.out 3 (by omega) HB10.out
    | some ps =>
      have hO2 : openF xs = (readT (bodyOf xs) ps).bind fun es => if fitTB es = true ∧ tabB es = xs then some es else none := HO.out
      have hpin := plcL_in _ _ _ _ HPL.out
      have hpln := plcL_len _ _ _ _ HPL.out
      rw [HXl.out] at hpln
      have HPin : Hid (∀ j, j < ps.length → (elt noPl ps j).1 + (elt noPl ps j).2 + 4 ≤ N) := hid (fun j hj => by
        have := hpin (elt noPl ps j) (by unfold elt; simp [hj])
        omega)
      obtain ⟨RT, hRT⟩ : ∃ R, readT (bodyOf xs) ps = R := ⟨_, rfl⟩
      rw [hRT] at hO2
      have HRT := hid hRT
      have HO2 := hid hO2
      have HneA : Hid (∀ (ad : Addr), A = some ad → ad.block < w.heap.size) := hid (fun ad e => by
        obtain ⟨ad', e', hcell⟩ := H.out.at_ (show 0 < n by omega)
        rw [e] at e'
        obtain rfl := Option.some.inj e'
        have := World.block_lt_of_cell? w _ hcell
        rwa [block_of_add] at this)
      clear hO2 hRT hpin HO
      cases RT with
      | none =>
        have HD : Hid (openF xs = none) := hid (by rw [HO2.out]; rfl)
        go_wp2_with (first
        | (go_at_call 37; (with_reducible refine (HW1.out).mono ?_); rintro e w6 ⟨rfl, rfl⟩)
        | (go_at_call 37; (with_reducible refine (HW2.out).mono ?_); rintro e w6 ⟨rfl, rfl⟩)
        | (go_at_call 35; (with_reducible refine (HP1.out).mono ?_); rintro e w6 ⟨A6, c6, rfl, hr6, hc6, hww6⟩; subst hww6; rw [HS1.out]; have HR6x := hid hr6; clear hr6)
        | (go_at_call 35; (with_reducible refine (HP2.out).mono ?_); rintro e w7 ⟨A7, c7, rfl, hr7, hc7, hww7⟩; subst hww7; rw [HS2.out]; have HR7x := hid hr7; clear hr7)
        | (at_builtin; refine wpB_append w wr w.heap.size rfl (.const (.slice none 0 0)) (.tmp 97) rfl _ [] rfl (OB.nil _ _) A7 n3 c7 XF rfl (by rw [← HXF.out]; exact HR7x.out) (by have := (HR7x.out).1; rw [HXF.out] at this; simp; omega) HB.out HB.out.size ?_; intro v8 w8 hown8 hB8 hg8 _; obtain ⟨A8, c8, rfl, _, _⟩ := OB.open_ (xs := XF) hown8; have HB8 := hid hB8; have HC8 : Hid (Below wr.heap.size wr w8) := hid (below_of_nil hg8); have HO8 : Hid (OB w8 w.heap.size (.slice A8 XF.length c8) XF) := hid hown8; have HB9 := hid (below_alloc' hB8 (.cells #[.slice none 0 0, .slice A8 XF.length c8] 76)); have HC9 := hid (below_alloc' (Below.refl w8.heap.size w8) (.cells #[.slice none 0 0, .slice A8 XF.length c8] 76)); have HBx9 := hid (heap_alloc_new w8 (.cells #[.slice none 0 0, .slice A8 XF.length c8] 76)); have HR6 : Hid (RB wr A6 n1 XI) := hid (by rw [← HXI.out]; exact HR6x.out); have HBt : Hid (w.heap.size ≤ w8.heap.size) := hid hB8.size; have q09 := below_cell (below_then HC8.out HC9.out) q0; clear hown8 hB8 hg8)
          | (go_at_call 38; (with_reducible refine (places_any' A6 n1 c6 XI A n0 ci _ (HR6.out.below (below_then HC8.out HC9.out)) hc6 (by omega) (by omega)).mono ?_); intro r w10 hpc; unfold PlcC at hpc; rw [HPL.out] at hpc; obtain ⟨v10, rfl, ho10, hb10⟩ := hpc; obtain ⟨A11, c11, rfl, hc11, hrp, hbs⟩ := ho10.reads (by omega); have HB10 := hid (below_then HB9.out hb10); have HBx10 := hid (blk_below hb10 HBx9.out); have HRp := hid hrp; have HneA2 : Hid (∀ (ad : Addr), A = some ad → ad.block ≠ w8.heap.size) := hid (fun ad e => by have := HneA.out ad e; have := HBt.out; omega); have HneB : Hid (∀ (ad : Addr), A11 = some ad → ad.block ≠ w8.heap.size) := hid (fun ad e => by have := hbs ad e; simp at this; omega); have HO10 := hid ((HO8.out.below HC9.out).below hb10); clear ho10 hrp hbs hb10)
          | (go_at_call 39; (with_reducible refine (read_tab w8.heap.size (.slice A8 XF.length c8) A N cb (bodyOf xs) A11 ps.length c11 ps _ HBx10.out (HBd.out.below HB10.out) hcb (by omega) HRp.out HPin.out HneA2.out HneB.out).mono ?_); rintro r w11 ⟨er, rfl, hrc⟩; rw [HRT.out] at hrc; obtain ⟨her, hg11⟩ := hrc.none_; have hzb : (er != 0) = true := (by simpa using her); have HB11 := hid (HB10.out.grown hg11 HB10.out.size (fun k hk => by cases hk; exact HBt.out))))
        go_ret2
        exact OpnC.no HD.out er her HB11.out
      | some es =>
        have hO3 : openF xs = if fitTB es = true ∧ tabB es = xs then some es else none := HO2.out
        have HO3 := hid hO3
        clear hO3
        by_cases hfit : FitT es
        case neg =>
          have HD : Hid (openF xs = none) := hid (by rw [HO3.out, if_neg (fun h => hfit ((fitTB_iff _).1 h.1))])
          have HBad : Hid (∀ E7, TbC es E7 → E7 ≠ 0) := hid (fun E7 h e => hfit (h.fit.1 e))
          clear hfit
          go_wp2_with (first
        | (go_at_call 37; (with_reducible refine (HW1.out).mono ?_); rintro e w6 ⟨rfl, rfl⟩)
        | (go_at_call 37; (with_reducible refine (HW2.out).mono ?_); rintro e w6 ⟨rfl, rfl⟩)
        | (go_at_call 35; (with_reducible refine (HP1.out).mono ?_); rintro e w6 ⟨A6, c6, rfl, hr6, hc6, hww6⟩; subst hww6; rw [HS1.out]; have HR6x := hid hr6; clear hr6)
        | (go_at_call 35; (with_reducible refine (HP2.out).mono ?_); rintro e w7 ⟨A7, c7, rfl, hr7, hc7, hww7⟩; subst hww7; rw [HS2.out]; have HR7x := hid hr7; clear hr7)
        | (at_builtin; refine wpB_append w wr w.heap.size rfl (.const (.slice none 0 0)) (.tmp 97) rfl _ [] rfl (OB.nil _ _) A7 n3 c7 XF rfl (by rw [← HXF.out]; exact HR7x.out) (by have := (HR7x.out).1; rw [HXF.out] at this; simp; omega) HB.out HB.out.size ?_; intro v8 w8 hown8 hB8 hg8 _; obtain ⟨A8, c8, rfl, _, _⟩ := OB.open_ (xs := XF) hown8; have HB8 := hid hB8; have HC8 : Hid (Below wr.heap.size wr w8) := hid (below_of_nil hg8); have HO8 : Hid (OB w8 w.heap.size (.slice A8 XF.length c8) XF) := hid hown8; have HB9 := hid (below_alloc' hB8 (.cells #[.slice none 0 0, .slice A8 XF.length c8] 76)); have HC9 := hid (below_alloc' (Below.refl w8.heap.size w8) (.cells #[.slice none 0 0, .slice A8 XF.length c8] 76)); have HBx9 := hid (heap_alloc_new w8 (.cells #[.slice none 0 0, .slice A8 XF.length c8] 76)); have HR6 : Hid (RB wr A6 n1 XI) := hid (by rw [← HXI.out]; exact HR6x.out); have HBt : Hid (w.heap.size ≤ w8.heap.size) := hid hB8.size; have q09 := below_cell (below_then HC8.out HC9.out) q0; clear hown8 hB8 hg8)
          | (go_at_call 38; (with_reducible refine (places_any' A6 n1 c6 XI A n0 ci _ (HR6.out.below (below_then HC8.out HC9.out)) hc6 (by omega) (by omega)).mono ?_); intro r w10 hpc; unfold PlcC at hpc; rw [HPL.out] at hpc; obtain ⟨v10, rfl, ho10, hb10⟩ := hpc; obtain ⟨A11, c11, rfl, hc11, hrp, hbs⟩ := ho10.reads (by omega); have HB10 := hid (below_then HB9.out hb10); have HBx10 := hid (blk_below hb10 HBx9.out); have HRp := hid hrp; have HneA2 : Hid (∀ (ad : Addr), A = some ad → ad.block ≠ w8.heap.size) := hid (fun ad e => by have := HneA.out ad e; have := HBt.out; omega); have HneB : Hid (∀ (ad : Addr), A11 = some ad → ad.block ≠ w8.heap.size) := hid (fun ad e => by have := hbs ad e; simp at this; omega); have HO10 := hid ((HO8.out.below HC9.out).below hb10); clear ho10 hrp hbs hb10)
            | (go_at_call 39; (with_reducible refine (read_tab w8.heap.size (.slice A8 XF.length c8) A N cb (bodyOf xs) A11 ps.length c11 ps _ HBx10.out (HBd.out.below HB10.out) hcb (by omega) HRp.out HPin.out HneA2.out HneB.out).mono ?_); rintro r w11 ⟨er, rfl, hrc⟩; rw [HRT.out] at hrc; obtain ⟨her, lv, hbx11, hro11, hg11⟩ := hrc.some_; obtain rfl : er = 0 := her; have HB11 := hid (HB10.out.grown hg11 HB10.out.size (fun k hk => by cases hk; exact HBt.out)); have HRo11 := hid (hro11.mono_ HB10.out.size); obtain ⟨Al, cl, hlv, hcl, hre⟩ := hro11.len (by have := hro11.len_lt; omega); subst hlv; have c11x := box_at hbx11 0 _ rfl; have HBx11 := hid hbx11; have HRE := hid hre; have HO11 := hid (HO10.out.other hg11 (.inr (HO10.out.ne_blk HBx10.out (by decide)))); clear hbx11 hro11 hg11 hre hrc)
            | (go_at_call 8; (with_reducible refine (tbuild_any Al es.length cl es _ HRE.out hcl).mono ?_); rintro r w12 ⟨E12, v12, rfl, htc, ho12, hb12⟩; have hE12 := HBad.out E12 htc; have hE12b : ((E12 : Int) != 0) = true := (by simpa using hE12); have HB12 := hid (below_then HB11.out hb12); clear ho12 htc))
          go_ret2
          exact OpnC.no HD.out 3 (by omega) HB12.out
        have HOk : Hid (∀ E7, TbC es E7 → E7 = 0) := hid (fun E7 h => h.fit.2 hfit)
        by_cases heq : tabB es = xs
        · have HD : Hid (openF xs = some es) := hid (by rw [HO3.out, if_pos ⟨(fitTB_iff _).2 hfit, heq⟩])
          have HXF2 : Hid (XF = filtB es) := hid (by rw [← HXF.out]; exact HFl.out es HD.out)
          have HEq : Hid (decide (tabB es = xs) = true) := hid (decide_eq_true heq)
          clear hfit heq
          go_wp2_with (first
        | (go_at_call 37; (with_reducible refine (HW1.out).mono ?_); rintro e w6 ⟨rfl, rfl⟩)
        | (go_at_call 37; (with_reducible refine (HW2.out).mono ?_); rintro e w6 ⟨rfl, rfl⟩)
        | (go_at_call 35; (with_reducible refine (HP1.out).mono ?_); rintro e w6 ⟨A6, c6, rfl, hr6, hc6, hww6⟩; subst hww6; rw [HS1.out]; have HR6x := hid hr6; clear hr6)
        | (go_at_call 35; (with_reducible refine (HP2.out).mono ?_); rintro e w7 ⟨A7, c7, rfl, hr7, hc7, hww7⟩; subst hww7; rw [HS2.out]; have HR7x := hid hr7; clear hr7)
        | (at_builtin; refine wpB_append w wr w.heap.size rfl (.const (.slice none 0 0)) (.tmp 97) rfl _ [] rfl (OB.nil _ _) A7 n3 c7 XF rfl (by rw [← HXF.out]; exact HR7x.out) (by have := (HR7x.out).1; rw [HXF.out] at this; simp; omega) HB.out HB.out.size ?_; intro v8 w8 hown8 hB8 hg8 _; obtain ⟨A8, c8, rfl, _, _⟩ := OB.open_ (xs := XF) hown8; have HB8 := hid hB8; have HC8 : Hid (Below wr.heap.size wr w8) := hid (below_of_nil hg8); have HO8 : Hid (OB w8 w.heap.size (.slice A8 XF.length c8) XF) := hid hown8; have HB9 := hid (below_alloc' hB8 (.cells #[.slice none 0 0, .slice A8 XF.length c8] 76)); have HC9 := hid (below_alloc' (Below.refl w8.heap.size w8) (.cells #[.slice none 0 0, .slice A8 XF.length c8] 76)); have HBx9 := hid (heap_alloc_new w8 (.cells #[.slice none 0 0, .slice A8 XF.length c8] 76)); have HR6 : Hid (RB wr A6 n1 XI) := hid (by rw [← HXI.out]; exact HR6x.out); have HBt : Hid (w.heap.size ≤ w8.heap.size) := hid hB8.size; have q09 := below_cell (below_then HC8.out HC9.out) q0; clear hown8 hB8 hg8)
          | (go_at_call 38; (with_reducible refine (places_any' A6 n1 c6 XI A n0 ci _ (HR6.out.below (below_then HC8.out HC9.out)) hc6 (by omega) (by omega)).mono ?_); intro r w10 hpc; unfold PlcC at hpc; rw [HPL.out] at hpc; obtain ⟨v10, rfl, ho10, hb10⟩ := hpc; obtain ⟨A11, c11, rfl, hc11, hrp, hbs⟩ := ho10.reads (by omega); have HB10 := hid (below_then HB9.out hb10); have HBx10 := hid (blk_below hb10 HBx9.out); have HRp := hid hrp; have HneA2 : Hid (∀ (ad : Addr), A = some ad → ad.block ≠ w8.heap.size) := hid (fun ad e => by have := HneA.out ad e; have := HBt.out; omega); have HneB : Hid (∀ (ad : Addr), A11 = some ad → ad.block ≠ w8.heap.size) := hid (fun ad e => by have := hbs ad e; simp at this; omega); have HO10 := hid ((HO8.out.below HC9.out).below hb10); clear ho10 hrp hbs hb10)
            | (go_at_call 39; (with_reducible refine (read_tab w8.heap.size (.slice A8 XF.length c8) A N cb (bodyOf xs) A11 ps.length c11 ps _ HBx10.out (HBd.out.below HB10.out) hcb (by omega) HRp.out HPin.out HneA2.out HneB.out).mono ?_); rintro r w11 ⟨er, rfl, hrc⟩; rw [HRT.out] at hrc; obtain ⟨her, lv, hbx11, hro11, hg11⟩ := hrc.some_; obtain rfl : er = 0 := her; have HB11 := hid (HB10.out.grown hg11 HB10.out.size (fun k hk => by cases hk; exact HBt.out)); have HRo11 := hid (hro11.mono_ HB10.out.size); obtain ⟨Al, cl, hlv, hcl, hre⟩ := hro11.len (by have := hro11.len_lt; omega); subst hlv; have c11x := box_at hbx11 0 _ rfl; have HBx11 := hid hbx11; have HRE := hid hre; have HO11 := hid (HO10.out.other hg11 (.inr (HO10.out.ne_blk HBx10.out (by decide)))); clear hbx11 hro11 hg11 hre hrc)
            | (go_at_call 8; (with_reducible refine (tbuild_any Al es.length cl es _ HRE.out hcl).mono ?_); rintro r w12 ⟨E12, v12, rfl, htc, ho12, hb12⟩; obtain rfl := HOk.out E12 htc; obtain ⟨A12, c12, rfl, hr12, _⟩ := OB.open_ (xs := tabB es) ho12; have HB12 := hid (below_then HB11.out hb12); have HR12 := hid hr12; have HBx12 := hid (blk_below hb12 HBx11.out); have HRo := hid (HRo11.out.below hb12); have HOf := hid (HO11.out.below hb12); have HX12 := hid (H.out.below HB12.out); clear ho12 htc hr12 hb12)
            | (go_at_call 24; (with_reducible refine (equal_any A12 _ c12 _ A n c xs _ HR12.out HX12.out).mono ?_); rintro r w13 ⟨rfl, rfl⟩; rw [HEq.out])
)
          go_ret2
          refine OpnC.yes HD.out ?_ HB12.out
          exact ⟨_, _, HBx12.out, HBt.out, HRo.out, by rw [← HXF2.out]; exact HOf.out⟩
        · have HD : Hid (openF xs = none) := hid (by rw [HO3.out, if_neg (fun h => heq h.2)])
          have HEq : Hid (decide (tabB es = xs) = false) := hid (decide_eq_false heq)
          clear hfit heq
          go_wp2_with (first
        | (go_at_call 37; (with_reducible refine (HW1.out).mono ?_); rintro e w6 ⟨rfl, rfl⟩)
        | (go_at_call 37; (with_reducible refine (HW2.out).mono ?_); rintro e w6 ⟨rfl, rfl⟩)
        | (go_at_call 35; (with_reducible refine (HP1.out).mono ?_); rintro e w6 ⟨A6, c6, rfl, hr6, hc6, hww6⟩; subst hww6; rw [HS1.out]; have HR6x := hid hr6; clear hr6)
        | (go_at_call 35; (with_reducible refine (HP2.out).mono ?_); rintro e w7 ⟨A7, c7, rfl, hr7, hc7, hww7⟩; subst hww7; rw [HS2.out]; have HR7x := hid hr7; clear hr7)
        | (at_builtin; refine wpB_append w wr w.heap.size rfl (.const (.slice none 0 0)) (.tmp 97) rfl _ [] rfl (OB.nil _ _) A7 n3 c7 XF rfl (by rw [← HXF.out]; exact HR7x.out) (by have := (HR7x.out).1; rw [HXF.out] at this; simp; omega) HB.out HB.out.size ?_; intro v8 w8 hown8 hB8 hg8 _; obtain ⟨A8, c8, rfl, _, _⟩ := OB.open_ (xs := XF) hown8; have HB8 := hid hB8; have HC8 : Hid (Below wr.heap.size wr w8) := hid (below_of_nil hg8); have HO8 : Hid (OB w8 w.heap.size (.slice A8 XF.length c8) XF) := hid hown8; have HB9 := hid (below_alloc' hB8 (.cells #[.slice none 0 0, .slice A8 XF.length c8] 76)); have HC9 := hid (below_alloc' (Below.refl w8.heap.size w8) (.cells #[.slice none 0 0, .slice A8 XF.length c8] 76)); have HBx9 := hid (heap_alloc_new w8 (.cells #[.slice none 0 0, .slice A8 XF.length c8] 76)); have HR6 : Hid (RB wr A6 n1 XI) := hid (by rw [← HXI.out]; exact HR6x.out); have HBt : Hid (w.heap.size ≤ w8.heap.size) := hid hB8.size; have q09 := below_cell (below_then HC8.out HC9.out) q0; clear hown8 hB8 hg8)
          | (go_at_call 38; (with_reducible refine (places_any' A6 n1 c6 XI A n0 ci _ (HR6.out.below (below_then HC8.out HC9.out)) hc6 (by omega) (by omega)).mono ?_); intro r w10 hpc; unfold PlcC at hpc; rw [HPL.out] at hpc; obtain ⟨v10, rfl, ho10, hb10⟩ := hpc; obtain ⟨A11, c11, rfl, hc11, hrp, hbs⟩ := ho10.reads (by omega); have HB10 := hid (below_then HB9.out hb10); have HBx10 := hid (blk_below hb10 HBx9.out); have HRp := hid hrp; have HneA2 : Hid (∀ (ad : Addr), A = some ad → ad.block ≠ w8.heap.size) := hid (fun ad e => by have := HneA.out ad e; have := HBt.out; omega); have HneB : Hid (∀ (ad : Addr), A11 = some ad → ad.block ≠ w8.heap.size) := hid (fun ad e => by have := hbs ad e; simp at this; omega); have HO10 := hid ((HO8.out.below HC9.out).below hb10); clear ho10 hrp hbs hb10)
            | (go_at_call 39; (with_reducible refine (read_tab w8.heap.size (.slice A8 XF.length c8) A N cb (bodyOf xs) A11 ps.length c11 ps _ HBx10.out (HBd.out.below HB10.out) hcb (by omega) HRp.out HPin.out HneA2.out HneB.out).mono ?_); rintro r w11 ⟨er, rfl, hrc⟩; rw [HRT.out] at hrc; obtain ⟨her, lv, hbx11, hro11, hg11⟩ := hrc.some_; obtain rfl : er = 0 := her; have HB11 := hid (HB10.out.grown hg11 HB10.out.size (fun k hk => by cases hk; exact HBt.out)); have HRo11 := hid (hro11.mono_ HB10.out.size); obtain ⟨Al, cl, hlv, hcl, hre⟩ := hro11.len (by have := hro11.len_lt; omega); subst hlv; have c11x := box_at hbx11 0 _ rfl; have HBx11 := hid hbx11; have HRE := hid hre; have HO11 := hid (HO10.out.other hg11 (.inr (HO10.out.ne_blk HBx10.out (by decide)))); clear hbx11 hro11 hg11 hre hrc)
            | (go_at_call 8; (with_reducible refine (tbuild_any Al es.length cl es _ HRE.out hcl).mono ?_); rintro r w12 ⟨E12, v12, rfl, htc, ho12, hb12⟩; obtain rfl := HOk.out E12 htc; obtain ⟨A12, c12, rfl, hr12, _⟩ := OB.open_ (xs := tabB es) ho12; have HB12 := hid (below_then HB11.out hb12); have HR12 := hid hr12; have HBx12 := hid (blk_below hb12 HBx11.out); have HRo := hid (HRo11.out.below hb12); have HOf := hid (HO11.out.below hb12); have HX12 := hid (H.out.below HB12.out); clear ho12 htc hr12 hb12)
            | (go_at_call 24; (with_reducible refine (equal_any A12 _ c12 _ A n c xs _ HR12.out HX12.out).mono ?_); rintro r w13 ⟨rfl, rfl⟩; rw [HEq.out])
)
          go_ret2
          exact OpnC.no HD.out 3 (by omega) HB12.out
end Go.Proofs.YtkkclkknpjapcaaDoor
