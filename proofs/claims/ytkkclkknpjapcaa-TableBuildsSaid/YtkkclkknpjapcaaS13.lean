/- Shared texts, part S13: TbD, TbE, TbK0, SSr, BkS, BkA, MmQn. -/
import Derived.Shelf.Abstract
import Derived.StillTailTactics
import Derived.Lib.SmallJoins
import Derived.Deep.RegionHeldLaw
import Derived.Test.YtkkclkknpjapcaaS12
import Derived.Test.YtkkclkknpjapcaaS11
import Derived.Test.YtkkclkknpjapcaaS01
import Derived.Test.YtkkclkknpjapcaaS10
import Derived.Test.YtkkclkknpjapcaaS07
import Derived.Test.YtkkclkknpjapcaaS08
/-! ### TbD -/
namespace Go.Proofs.Ytkkclkknpjapcaa
open Go.RowKit
set_option linter.unusedVariables false
set_option linter.unusedSimpArgs false

theorem app_len {a b L : List UInt8} (h : a ++ b = L) : L.length = a.length + b.length := by rw [← h, List.length_append]
/-- What Build leaves of entries that may be. -/
def BdF (w w' : World) (es : List EntR) (r : Ending) : Prop :=
  if 4194304 < (tabB es).length then r = .returned (.tuple #[.slice none 0 0, .int .i64 8]) ∧ Below w.heap.size w w'
  else ∃ v, r = .returned (.tuple #[v, .int .i64 0]) ∧ OB w' w.heap.size v (tabB es) ∧ Below w.heap.size w w'
set_option maxHeartbeats 64000000 in
set_option maxRecDepth 200000 in
theorem tbuild_fit (A : Option Addr) (n c : Nat) (es : List EntR) (w : World) (h : REnts w A n es) (hc : n ≤ c) (hn : 1 ≤ n ∧ n ≤ 4000) (hall : AllM es) (hsrt : Srt es) :
    Calls Try.prog 12 #[.slice A n c] w fun r w' => BdF w w' es r := by
  have hl := h.1
  have H := hid h
  have HCh : Hid (∀ E, ChC es E → E = 0) := hid (fun E hE => by
    rcases hE with ⟨h1, _⟩ | ⟨_, h1, _⟩ | ⟨_, _, h1, _⟩ | ⟨_, _, _, h1⟩
    · omega
    · exact absurd hall h1
    · exact absurd hsrt h1
    · exact h1)
  have HAll := hid hall
  have HSrt := hid hsrt
  have HL := hid hl
  clear h hall hsrt hl
  go_enter Try.func12, Try.ntmps12
  go_wp2_with (go_at_call 32; (with_reducible refine (check_any A n c es _ H.out hc).mono ?_); rintro r w0 ⟨E0, rfl, hch, hb0⟩; obtain rfl := HCh.out E0 hch; have HB0 := hid hb0; clear hch hb0)
  clear HCh
  go_loopw [7, 28] (fun kv i wr => ∃ (k : Nat) (V : List Value), k ≤ n ∧ i = .int .i64 k ∧ OS wr w.heap.size kv V ∧ RBW w V (keysU es k) ∧ Below w.heap.size w wr) (fun _ i wr => n - (intOf i).toNat)
  case atStart => exact ⟨0, [], Nat.zero_le _, rfl, OS.nil _ _, RBW.nil _, HB0.out⟩
  case round =>
    clear HB0
    obtain ⟨k, V, hk, rfl, hos, hrw, hB⟩ := hrel
    have hVl : V.length ≤ 4000 := by have := keysU_len es k; have := hrw.1; omega
    by_cases hlt : k < n
    · obtain ⟨ad, rfl, hen⟩ := H.out.at_ hlt
      obtain ⟨Ak, nk, ck, Av, nv, cv, a0, a1, a2, a3, a4, a5, a6, a7, a8⟩ := hen
      have hstep : keysU es (k + 1) = if k = 0 ∨ eKey (elt noEnt es (k - 1)) ≠ eKey (elt noEnt es k) then keysU es k ++ [eKey (elt noEnt es k)] else keysU es k := rfl
      have a0 := below_cell hB a0
      have a1 := below_cell hB a1
      have a2 := below_cell hB a2
      have a3 := below_cell hB a3
      have a4 := below_cell hB a4
      by_cases hk0 : k = 0
      · have hkz : ((k : Int) == 0) = true := by rw [beq_iff_eq]; omega
        rw [if_pos (.inl hk0)] at hstep
        have HK2 : Hid (RBW w (V ++ [.slice Ak nk ck]) (keysU es (k + 1))) := hid (by rw [hstep]; exact hrw.append (RBW.one a5 a7))
        clear hstep hrw a5 a6 hk0
        go_wp2
        go_quiet (fail)
        go_wp2_with (at_builtin; refine wpS_append1 w _ w.heap.size rfl (.tmp 47) (.tmp 50) rfl _ V rfl (by exact (hos.below (below_alloc' (Below.refl _ _) _)).below (below_drewN (Below.refl _ _) _)) Ak nk ck 1 _ (by first | rfl | simp) rfl (by omega) (below_drewN (below_alloc' hB _) _) (below_drewN (below_alloc' hB _) _).size ?_; intro v1 w1 hown1 hB1)
        go_roundw
        case rel => exact ⟨k + 1, _, by omega, by go_num, hown1, HK2.out, hB1⟩
        case measure => simp [intOf]; omega
      · obtain ⟨j, hj⟩ : ∃ j, k - 1 = j := ⟨_, rfl⟩
        have hkm : (k : Int) - 1 = (j : Int) := by omega
        have hws : IntKind.i64.wrap (j : Int) = (j : Int) := by rw [IntKind.wrap_i64]; omega
        have hjn : j < n := by omega
        have hkz : ((k : Int) == 0) = false := by rw [beq_eq_false_iff_ne]; omega
        obtain ⟨ad2, hae, hen2⟩ := H.out.at_ hjn
        obtain rfl := Option.some.inj hae
        obtain ⟨Bk, mk, dk, Bv, mv, dv, b0, b1, b2, b3, b4, b5, b6, b7, b8⟩ := hen2
        have b0 := below_cell hB b0
        have b9 : (wr.alloc (.cells #[.slice Ak nk ck, .int .i64 (eSeq (elt noEnt es k)), .bool (eGone (elt noEnt es k)), .int .i64 (eTil (elt noEnt es k)), .slice Av nv cv] 42)).cell? (ad.add (j * 5)) = some (.slice Bk mk dk) := below_cell (below_alloc' (Below.refl _ _) _) b0
        rw [hj] at hstep
        have HKa := hid (a5.below (below_alloc' hB (.cells #[.slice Ak nk ck, .int .i64 (eSeq (elt noEnt es k)), .bool (eGone (elt noEnt es k)), .int .i64 (eTil (elt noEnt es k)), .slice Av nv cv] 42)))
        have HKb := hid (b5.below (below_alloc' hB (.cells #[.slice Ak nk ck, .int .i64 (eSeq (elt noEnt es k)), .bool (eGone (elt noEnt es k)), .int .i64 (eTil (elt noEnt es k)), .slice Av nv cv] 42)))
        by_cases heq : eKey (elt noEnt es j) = eKey (elt noEnt es k)
        · rw [if_neg (by rintro (h | h); exact hk0 h; exact h heq)] at hstep
          have HK2 : Hid (RBW w V (keysU es (k + 1))) := hid (by rw [hstep]; exact hrw)
          have HEq : Hid (decide (eKey (elt noEnt es j) = eKey (elt noEnt es k)) = true) := hid (decide_eq_true heq)
          clear hstep hrw a5 a6 b5 b6 heq b1 b2 b3 b4 hae hj hk0
          go_wp2
          go_quiet (first | (go_at_call 33; refine Calls.quiet_of_same (v := .bool true) ((equal_any Bk mk dk _ Ak nk ck _ _ (HKb.out.drewN _) (HKa.out.drewN _)).mono ?_); rintro r w1 ⟨rfl, rfl⟩; exact ⟨(by rw [HEq.out]), rfl⟩))
          go_wp2
          go_roundw
          case rel => exact ⟨k + 1, V, by omega, by go_num, (hos.below (below_alloc' (Below.refl _ _) _)).below (below_drewN (Below.refl _ _) _), HK2.out, below_drewN (below_alloc' hB _) _⟩
          case measure => simp [intOf]; omega
        · rw [if_pos (.inr heq)] at hstep
          have HK2 : Hid (RBW w (V ++ [.slice Ak nk ck]) (keysU es (k + 1))) := hid (by rw [hstep]; exact hrw.append (RBW.one a5 a7))
          have HEq : Hid (decide (eKey (elt noEnt es j) = eKey (elt noEnt es k)) = false) := hid (decide_eq_false heq)
          clear hstep hrw a5 a6 b5 b6 heq b1 b2 b3 b4 hae hj hk0
          go_wp2
          go_quiet (first | (go_at_call 33; refine Calls.quiet_of_same (v := .bool false) ((equal_any Bk mk dk _ Ak nk ck _ _ (HKb.out.drewN _) (HKa.out.drewN _)).mono ?_); rintro r w1 ⟨rfl, rfl⟩; exact ⟨(by rw [HEq.out]), rfl⟩))
          go_wp2_with (at_builtin; refine wpS_append1 w _ w.heap.size rfl (.tmp 47) (.tmp 50) rfl _ V rfl (by exact (hos.below (below_alloc' (Below.refl _ _) _)).below (below_drewN (Below.refl _ _) _)) Ak nk ck 1 _ (by first | rfl | simp) rfl (by omega) (below_drewN (below_alloc' hB _) _) (below_drewN (below_alloc' hB _) _).size ?_; intro v1 w1 hown1 hB1)
          go_roundw
          case rel => exact ⟨k + 1, _, by omega, by go_num, hown1, HK2.out, hB1⟩
          case measure => simp [intOf]; omega
    · obtain rfl : k = n := by omega
      have HRW := hid hrw
      have HVl := hid hVl
      have HJ0 := hid (BlkJ.start H.out hc hos HAll.out HSrt.out hB)
      have HBl : Hid (∀ out idx, blkF es.length es [] [] = (out, idx) → ∀ FIL, filterB (keysU es k) = FIL → tabB es = (((out ++ sumB idx) ++ sumB FIL) ++ sumB (footU [out.length, idx.length, (out ++ sumB idx).length, FIL.length, k] 5)) ++ magicB) := hid (fun out idx h FIL hF => by
        have e : es.length = k := HL.out
        unfold tabB blocksB indexB filtB
        rw [h, e, hF, footU_five])
      clear hos hrw hVl hB hlt HAll HSrt
      go_wp2
      go_loopw [5, 6, 10] (fun ov iv rv wr2 => ∃ Ao co out Ai ci idx Ar nr cr rest f, ov = .slice Ao (out : List UInt8).length co ∧ iv = .slice Ai (idx : List UInt8).length ci ∧ rv = .slice Ar nr cr ∧ BlkJ w wr2 es u7 V Ao co out Ai ci idx Ar nr cr rest f) (fun _ _ rv _ => lenV rv)
      case atStart => exact ⟨none, 0, [], none, 0, [], A, k, c, es, es.length, rfl, rfl, rfl, HJ0.out⟩
      case round =>
        clear HJ0
        obtain ⟨Ao, co, out, Ai, ci, idx, Ar, nr, cr, rest, f, rfl, rfl, rfl, hJ⟩ := hrel
        obtain ⟨j1, j2, j3, j4, j5, j6, j7, j8, j9, j10, j11, j12⟩ := hJ
        have hrl : rest.length = nr := j4.1
        have hel : es.length = k := HL.out
        have hw1 := wrap_u64_nat out.length (by omega)
        have HOs := hid j3
        have HOut := hid j1
        have HIdx := hid j2
        have HB := hid j12
        by_cases hr0 : nr = 0
        · obtain rfl : rest = [] := List.eq_nil_of_length_eq_zero (by omega)
          rw [blkF_done] at j6
          have hz0 : decide ((0 : Int) < (nr : Int)) = false := decide_eq_false (by omega)
          obtain ⟨FIL, hFIL⟩ : ∃ F, filterB (keysU es k) = F := ⟨_, rfl⟩
          have hT := HBl.out out idx j6 FIL hFIL
          have hfl : FIL.length ≤ 5008 := by
            have h1 := keysU_len es k
            have h2 : FIL.length = sizeF (keysU es k).length := by rw [← hFIL]; exact fillUpto_len _ _ _ _
            rw [h2]
            unfold sizeF
            split <;> omega
          have HFIL := hid hFIL
          obtain ⟨Akk, ckk, rfl, hckk, hrd⟩ := j3.readsN V.length rfl
          have hvl : V.length ≤ 4000 := HVl.out
          have HKs := hid (RBs_of_reads hrd (HRW.out.below j12) (by omega))
          have HT := hid hT
          clear hT hrd j3 j6 hFIL j1 j2 j4 j8 j9 j12 HBl HRW HOs
          go_wp2_with (first
            | (go_at_call 39; (with_reducible refine (build_any Akk V.length ckk (keysU es k) _ HKs.out (by omega)).mono ?_); rintro e w1 ⟨v1, rfl, ho1, hb1⟩; rw [HFIL.out] at ho1; obtain ⟨A1, d1, rfl, _, _⟩ := ho1.open_; have HB1 := hid (below_then HB.out hb1); have HC1 := hid hb1; have HF1 := hid ho1; clear ho1 hb1)
            | (go_at_call 38; (with_reducible refine (summed_any Ai idx.length ci idx _ (HIdx.out.below HC1.out) (by omega)).mono ?_); rintro e w2 ⟨v2, rfl, ho2, hb2⟩; obtain ⟨SI, hSI⟩ : ∃ S, sumB idx = S := ⟨_, rfl⟩; rw [hSI] at ho2; have hl2 : Hid (SI.length = idx.length + 4) := hid (by rw [← hSI, sumB_len]); obtain ⟨A2, d2, rfl, hr2, _⟩ := ho2.open_; have HB2 := hid (below_then HB1.out hb2); have HC2 := hid (below_then HC1.out hb2); have HF2 := hid (HF1.out.below hb2); have HSI := hid hSI; have HR2 := hid hr2; clear ho2 hr2 hb2 hSI)
            | (at_builtin; refine wpB_append w w2 w.heap.size rfl (.tmp 103) (.tmp 105) rfl (.slice Ao out.length co) out rfl (HOut.out.below HC2.out) A2 SI.length d2 SI rfl HR2.out (by have := hl2.out; omega) HB2.out HB2.out.size ?_; intro v3 w3 hown3 hB3 hg3 hat3; obtain ⟨O2, hO2⟩ : ∃ O, out ++ SI = O := ⟨_, rfl⟩; rw [hO2] at hown3; have hl3 : Hid (O2.length = out.length + SI.length) := hid (app_len hO2); obtain ⟨A3, d3, rfl, _, _⟩ := hown3.openN O2.length rfl; have HRF := hid (RB.past HF2.out HOut.out (Nat.le_refl _) hg3); have HO3 := hid hown3; have HB3 := hid hB3; have HO2 := hid hO2; clear hown3 hB3 hg3 hat3 hO2)
            | (go_at_call 38; (with_reducible refine (summed_any A1 FIL.length d1 FIL _ HRF.out (by omega)).mono ?_); rintro e w4 ⟨v4, rfl, ho4, hb4⟩; obtain ⟨SF, hSF⟩ : ∃ S, sumB FIL = S := ⟨_, rfl⟩; rw [hSF] at ho4; have hl4 : Hid (SF.length = FIL.length + 4) := hid (by rw [← hSF, sumB_len]); obtain ⟨A4, d4, rfl, hr4, _⟩ := ho4.open_; have HB4 := hid (below_then HB3.out hb4); have HC4 := hid hb4; have HSF := hid hSF; have HR4 := hid hr4; clear ho4 hr4 hb4 hSF)
            | (at_builtin; refine wpB_append w w4 w.heap.size rfl (.tmp 109) (.tmp 111) rfl (.slice A3 O2.length d3) O2 rfl (HO3.out.below HC4.out) A4 SF.length d4 SF rfl HR4.out (by have := hl2.out; have := hl3.out; have := hl4.out; omega) HB4.out HB4.out.size ?_; intro v5 w5 hown5 hB5 hg5 hat5; obtain ⟨O3, hO3⟩ : ∃ O, O2 ++ SF = O := ⟨_, rfl⟩; rw [hO3] at hown5; have hl5 : Hid (O3.length = O2.length + SF.length) := hid (app_len hO3); obtain ⟨A5, d5, rfl, _, _⟩ := hown5.openN O3.length rfl; have HO5 := hid hown5; have HB5 := hid hB5; have HO3' := hid hO3; clear hown5 hB5 hg5 hat5 hO3))
          have ho2l : O2.length ≤ 13200000 := by have := hl2.out; have := hl3.out; omega
          have ho3l : O3.length ≤ 13210000 := by have := hl5.out; have := hl4.out; omega
          have HTT : Hid (tabB es = (O3 ++ sumB (footU [out.length, idx.length, O2.length, FIL.length, k] 5)) ++ magicB) := hid (by rw [HT.out, HSI.out, HSF.out, HO2.out, HO3'.out])
          have H5 : Hid (∀ q, q < 5 → elt 0 [out.length, idx.length, O2.length, FIL.length, k] q < 4294967296) := hid (fun q hq => elt5_lt (by omega) hq)
          clear HT HSI HSF HO2 HO3' hl2 hl3 hl4 hl5 HR2 HR4 HRF HO3 HF1 HF2 HFIL HKs
          go_loopw [18, 122] (fun fv i wr3 => ∃ (m : Nat) (Af : Option Addr) (nf cf : Nat), m ≤ 5 ∧ i = .int .i64 m ∧ fv = .slice Af nf cf ∧ RB wr3 Af nf (footU [out.length, idx.length, O2.length, FIL.length, k] m) ∧ OB wr3 w.heap.size (.slice A5 O3.length d5) O3 ∧ Below w.heap.size w wr3) (fun _ i _ => 5 - (intOf i).toNat)
          case atStart => exact ⟨0, none, 0, 0, by omega, rfl, rfl, RB.nil _, HO5.out, HB5.out⟩
          case round =>
            clear HO5 HB5
            obtain ⟨m, Af, nf, cf, hm, rfl, rfl, hrf, ho, hB⟩ := hrel
            have HRf := hid hrf
            have HOo := hid ho
            have HBb := hid hB
            have hfl := hrf.1
            rw [footU_len] at hfl
            clear hrf ho hB
            by_cases hm5 : m < 5
            · have hix := run_index5 out.length idx.length O2.length FIL.length k hm5 wr
              have hX := H5.out m hm5
              have hsucc : footU [out.length, idx.length, O2.length, FIL.length, k] (m + 1) = footU [out.length, idx.length, O2.length, FIL.length, k] m ++ fixB (elt 0 [out.length, idx.length, O2.length, FIL.length, k] m) 4 := rfl
              have HSu := hid hsucc
              clear hsucc
              generalize elt 0 [out.length, idx.length, O2.length, FIL.length, k] m = X at *
              have hxw := wrap_u64_nat X (by omega)
              have HFx := hid (fixed_any Af nf cf _ X 4 wr HRf.out (by omega) (by omega) (by omega))
              go_wp2_with (go_at_call 40; refine (HFx.out).mono ?_; rintro e w6 ⟨v6, rfl, ho6, hb6⟩; rw [← HSu.out] at ho6; obtain ⟨A6, d6, rfl, hr6, _⟩ := ho6.open_; have HR6 := hid hr6; have HB6 := hid hb6; clear ho6 hr6 hb6)
              go_roundw
              case rel => exact ⟨m + 1, A6, _, d6, by omega, by go_num, rfl, HR6.out, HOo.out.below HB6.out, below_then HBb.out HB6.out⟩
              case measure => simp [intOf]; omega
            · obtain rfl : m = 5 := by omega
              obtain ⟨FT, hFT⟩ : ∃ F, footU [out.length, idx.length, O2.length, FIL.length, k] 5 = F := ⟨_, rfl⟩
              have hT2 := HTT.out
              rw [hFT] at hT2 HRf
              obtain ⟨TB, hTB⟩ : ∃ T, tabB es = T := ⟨_, rfl⟩
              rw [hTB] at hT2
              obtain ⟨SS, hSS⟩ : ∃ S, sumB FT = S := ⟨_, rfl⟩
              rw [hSS] at hT2
              have HSS := hid hSS
              have hlS : Hid (SS.length = nf + 4) := hid (by rw [← hSS, sumB_len, HRf.out.1])
              obtain ⟨O4, hO4⟩ : ∃ O, O3 ++ SS = O := ⟨_, rfl⟩
              rw [hO4] at hT2
              have hl4 : Hid (O4.length = O3.length + SS.length) := hid (app_len hO4)
              have HO4 := hid hO4
              have HT2 := hid hT2
              have HTB := hid hTB
              have hlT : Hid (TB.length = O4.length + 8) := hid (by rw [hT2, List.length_append]; rfl)
              have hms : (⟨#[104, 97, 108, 121, 97, 114, 100, 49]⟩ : ByteArray) = bstr magicB := rfl
              have HMs := hid hms
              clear hFT hSS hO4 hT2 hTB hms H5 HTT
              by_cases hbig : 4194304 < TB.length
              · have hd1 : decide ((4194304 : Int) < (TB.length : Int)) = true := decide_eq_true (by omega)
                go_wp2_with (first
                  | (go_at_call 38; (with_reducible refine (summed_any Af nf cf FT _ HRf.out (by omega)).mono ?_); rintro e w6 ⟨v6, rfl, ho6, hb6⟩; rw [HSS.out] at ho6; obtain ⟨A6, d6, rfl, hr6, _⟩ := ho6.open_; have HR6 := hid hr6; have HB6 := hid (below_then HBb.out hb6); have HO6 := hid (HOo.out.below hb6); clear ho6 hr6 hb6)
                  | (at_builtin; refine wpB_append w w6 w.heap.size rfl (.tmp 130) (.tmp 132) rfl (.slice A5 O3.length d5) O3 rfl HO6.out A6 SS.length d6 SS rfl HR6.out (by have := hlS.out; omega) HB6.out HB6.out.size ?_; intro v7 w7 hown7 hB7 hg7 hat7; rw [HO4.out] at hown7; obtain ⟨A7, d7, rfl, _, _⟩ := hown7.openN O4.length rfl; have HO7 := hid hown7; have HB7 := hid hB7; clear hown7 hB7 hg7 hat7)
                  | (at_builtin; refine wpB_append_str w w7 w.heap.size rfl (.tmp 133) _ rfl (.slice A7 O4.length d7) O4 rfl HO7.out magicB _ rfl HMs.out (by decide) (by have := hl4.out; have := hlS.out; show O4.length + 8 ≤ _; omega) HB7.out HB7.out.size ?_; intro v8 w8 hown8 hB8 hg8 hat8; rw [← HT2.out] at hown8; obtain ⟨A8, d8, rfl, _, _⟩ := hown8.openN TB.length rfl; have HO8 := hid hown8; have HB8 := hid hB8; clear hown8 hB8 hg8 hat8))
                go_ret2
                unfold BdF
                rw [HTB.out, if_pos hbig]
                exact ⟨rfl, HB8.out⟩
              · have hd1 : decide ((4194304 : Int) < (TB.length : Int)) = false := decide_eq_false (by omega)
                go_wp2_with (first
                  | (go_at_call 38; (with_reducible refine (summed_any Af nf cf FT _ HRf.out (by omega)).mono ?_); rintro e w6 ⟨v6, rfl, ho6, hb6⟩; rw [HSS.out] at ho6; obtain ⟨A6, d6, rfl, hr6, _⟩ := ho6.open_; have HR6 := hid hr6; have HB6 := hid (below_then HBb.out hb6); have HO6 := hid (HOo.out.below hb6); clear ho6 hr6 hb6)
                  | (at_builtin; refine wpB_append w w6 w.heap.size rfl (.tmp 130) (.tmp 132) rfl (.slice A5 O3.length d5) O3 rfl HO6.out A6 SS.length d6 SS rfl HR6.out (by have := hlS.out; omega) HB6.out HB6.out.size ?_; intro v7 w7 hown7 hB7 hg7 hat7; rw [HO4.out] at hown7; obtain ⟨A7, d7, rfl, _, _⟩ := hown7.openN O4.length rfl; have HO7 := hid hown7; have HB7 := hid hB7; clear hown7 hB7 hg7 hat7)
                  | (at_builtin; refine wpB_append_str w w7 w.heap.size rfl (.tmp 133) _ rfl (.slice A7 O4.length d7) O4 rfl HO7.out magicB _ rfl HMs.out (by decide) (by have := hl4.out; have := hlS.out; show O4.length + 8 ≤ _; omega) HB7.out HB7.out.size ?_; intro v8 w8 hown8 hB8 hg8 hat8; rw [← HT2.out] at hown8; obtain ⟨A8, d8, rfl, _, _⟩ := hown8.openN TB.length rfl; have HO8 := hid hown8; have HB8 := hid hB8; clear hown8 hB8 hg8 hat8))
                go_ret2
                unfold BdF
                rw [HTB.out, if_neg hbig]
                exact ⟨_, rfl, HO8.out, HB8.out⟩
        · have hne : rest ≠ [] := by intro e; rw [e] at hrl; simp at hrl; omega
          have hpos : decide ((0 : Int) < (nr : Int)) = true := decide_eq_true (by omega)
          have hN1 := cutN_pos hne
          have hN2 := cutN_few rest
          have hN3 := cutN_le rest
          have hfit := fit_cut j8 j9 hne
          have hlen := enc_len hfit.2.2.1 hfit.1
          obtain ⟨f, rfl⟩ : ∃ f', f = f' + 1 := ⟨f - 1, by omega⟩
          have hst := blkF_step (f := f) (out := out) (idx := idx) (N := cutN rest) (BK := encK (rest.take (cutN rest))) (x := elt noEnt rest (cutN rest - 1)) hne rfl rfl rfl
          rw [← j6] at hst
          obtain ⟨N, hN⟩ : ∃ N, cutN rest = N := ⟨_, rfl⟩
          simp only [hN] at hN1 hN2 hN3 hfit hlen hst
          have HN := hid hN
          rw [List.length_take, Nat.min_eq_left hN3] at hlen
          obtain ⟨BK, hBK⟩ : ∃ BK, encK (rest.take N) = BK := ⟨_, rfl⟩
          rw [hBK] at hst hlen
          have HBK := hid hBK
          have HFit := hid hfit
          have HMay : Hid (∀ j, j < nr → mayE (elt noEnt rest j) = true) := hid (fun j hj => j8 j (by omega))
          obtain ⟨q, hq⟩ : ∃ q, N - 1 = q := ⟨_, rfl⟩
          have hNm : (N : Int) - 1 = (q : Int) := by omega
          have hqn : q < nr := by omega
          rw [hq] at hst
          obtain ⟨ad, rfl, hen⟩ := j4.at_ hqn
          have hmx := mayE_cases (HMay.out q hqn)
          generalize elt noEnt rest q = x at *
          obtain ⟨Ak, nk, ck, Av, nv, cv, a0, a1, a2, a3, a4, a5, a6, a7, a8⟩ := hen
          have hnk := a5.1
          have hk512 : nk ≤ 512 := by omega
          have a0 := below_cell j12 a0
          have HKey := hid a5
          obtain ⟨c3, hcut3, hre3, hc3⟩ := cutEn_hi (A := some ad) j5 (hi := N) (by omega) (N : Int) rfl
          obtain ⟨A4, c4, hcut4, hre4, hc4⟩ := cutEn_lo (A := some ad) j5 (lo := N) (by omega) (N : Int) rfl
          have HRT := hid (hre3 _ _ j4)
          have HRD := hid (hre4 _ _ j4)
          have HRE := hid j4
          have HSt := hid hst
          have hw2 := wrap_u64_nat BK.length (by omega)
          have hu1 := uvar_len (eKey x).length
          have hu2 := uvar_len out.length
          have hu3 := uvar_len BK.length
          have HAl := hid (j8.drop N)
          have HSl := hid (j9.drop N)
          clear hst hfit hN hBK hre3 hre4 j1 j2 j3 j4 j6 j8 j9 hmx a1 a2 a3 a4 a5 a6 hne hq
          go_wp2_with (first
            | (go_at_call 34; (with_reducible refine (cut_any (some ad) nr cr rest _ (HRE.out.below HB.out) (by omega) HMay.out).mono ?_); rintro e w1 ⟨rfl, hb1⟩; rw [HN.out]; have HB1 := hid (below_then HB.out hb1); have HC1 := hid hb1; clear hb1)
            | (go_at_call 35; (with_reducible refine (encode_fit (some ad) N c3 (rest.take N) _ (HRT.out.below HB1.out) HFit.out).mono ?_); rintro r w2 ⟨v2, rfl, ho2, hb2⟩; rw [HBK.out] at ho2; obtain ⟨Ab, cb, rfl, hrb2, hcb2⟩ := ho2.open_; have HB2 := hid (below_then HB1.out hb2); have HC2 := hid (below_then HC1.out hb2); have a9 := below_cell HC2.out a0; have HRb := hid hrb2; clear ho2 hrb2 hb2)
            | (go_at_call 36; (with_reducible refine (putbytes_any Ai idx.length ci idx Ak nk ck (eKey x) _ (HIdx.out.below HC2.out) (HKey.out.below HB2.out) (by omega)).mono ?_); rintro e w3 ⟨v3, rfl, ho3, hb3⟩; obtain ⟨I1, hI1⟩ : ∃ I, idx ++ uvar (eKey x).length ++ eKey x = I := ⟨_, rfl⟩; rw [hI1] at ho3; have hl1 : I1.length ≤ idx.length + 522 := (by rw [← hI1, List.length_append, List.length_append]; omega); obtain ⟨A3, d3, rfl, hr3, hc3'⟩ := ho3.open_; have HB3 := hid (below_then HB2.out hb3); have HC3 := hid (below_then HC2.out hb3); have HD3 := hid hb3; have HI1 := hid hI1; have HR3 := hid hr3; clear ho3 hr3 hb3 hI1)
            | (go_at_call 37; (with_reducible refine (put_any A3 I1.length d3 I1 out.length _ HR3.out (by omega) (by omega)).mono ?_); rintro e w4 ⟨v4, rfl, ho4, hb4⟩; obtain ⟨I2, hI2⟩ : ∃ I, I1 ++ uvar out.length = I := ⟨_, rfl⟩; rw [hI2] at ho4; have hl2 : I2.length ≤ idx.length + 532 := (by rw [← hI2, List.length_append]; omega); obtain ⟨A5, d5, rfl, hr4, hc4'⟩ := ho4.open_; have HB4 := hid (below_then HB3.out hb4); have HC4 := hid (below_then HC3.out hb4); have HD4 := hid (below_then HD3.out hb4); have HI2 := hid hI2; have HR4 := hid hr4; clear ho4 hr4 hb4 hI2)
            | (go_at_call 37; (with_reducible refine (put_any A5 I2.length d5 I2 BK.length _ HR4.out (by omega) (by omega)).mono ?_); rintro e w5 ⟨v5, rfl, ho5, hb5⟩; obtain ⟨I3, hI3⟩ : ∃ I, I2 ++ uvar BK.length = I := ⟨_, rfl⟩; rw [hI3] at ho5; have hl3 : I3.length ≤ idx.length + 542 := (by rw [← hI3, List.length_append]; omega); obtain ⟨A6, d6, rfl, hr5, hc5'⟩ := ho5.open_; have HB5 := hid (below_then HB4.out hb5); have HC5 := hid (below_then HC4.out hb5); have HD5 := hid (below_then HD4.out hb5); have HI3 := hid hI3; have HO5 := hid ho5; clear ho5 hr5 hb5 hI3)
            | (go_at_call 38; (with_reducible refine (summed_any Ab BK.length cb BK _ (HRb.out.below HD5.out) (by omega)).mono ?_); rintro e w6 ⟨v6, rfl, ho6, hb6⟩; obtain ⟨SB, hSB⟩ : ∃ S, sumB BK = S := ⟨_, rfl⟩; rw [hSB] at ho6; have hl6 : Hid (SB.length = BK.length + 4) := hid (by rw [← hSB, sumB_len]); obtain ⟨A7, d7, rfl, hr6, hc6'⟩ := ho6.open_; have HB6 := hid (below_then HB5.out hb6); have HC6 := hid (below_then HC5.out hb6); have HSB := hid hSB; have HR6 := hid hr6; have HO6 := hid (HO5.out.below hb6); clear ho6 hr6 hb6 hSB)
            | (at_builtin; refine wpB_append w w6 w.heap.size rfl (.tmp 86) (.tmp 88) rfl (.slice Ao out.length co) out rfl (HOut.out.below HC6.out) A7 SB.length d7 SB rfl HR6.out (by have := hl6.out; omega) HB6.out HB6.out.size ?_; intro v7 w7 hown7 hB7 hg7 hat7; obtain ⟨O2, hO2⟩ : ∃ O, out ++ SB = O := ⟨_, rfl⟩; rw [hO2] at hown7; have hl7 : Hid (O2.length = out.length + SB.length) := hid (app_len hO2); obtain ⟨A8, d8, rfl, _, _⟩ := hown7.open_; have HRI := hid (RB.past HO6.out HOut.out HC4.out.size hg7); have HOS7 := hid ((HOs.out.below HC6.out).other hg7 (OS.apart (HOs.out.below HC6.out) (HOut.out.below HC6.out))); have HO7 := hid hown7; have HB7 := hid hB7; have HO2 := hid hO2; clear hown7 hB7 hg7 hat7 hO2))
          have HN2 : Hid (BlkJ w w7 es u7 V A8 d8 O2 A6 d6 I3 A4 (nr - N) c4 (rest.drop N) f) := hid ⟨HO7.out, HRI.out, HOS7.out, HRD.out, hc4, by rw [HSt.out, HI1.out, HI2.out, HI3.out, HSB.out, HO2.out], by omega, HAl.out, HSl.out, by have := hl6.out; have := hl7.out; omega, by omega, HB7.out⟩
          go_roundw
          case rel => exact ⟨A8, d8, O2, A6, d6, I3, A4, nr - N, c4, rest.drop N, f, rfl, rfl, rfl, HN2.out⟩
          case measure => simp [lenV]; omega
end Go.Proofs.Ytkkclkknpjapcaa
/-! ### TbE -/
namespace Go.Proofs.Ytkkclkknpjapcaa
open Go.RowKit
set_option linter.unusedVariables false
set_option linter.unusedSimpArgs false

/-- All that Build answers. -/
def TBld (w w' : World) (es : List EntR) (r : Ending) : Prop := ∃ (E : Nat) (v : Value), r = .returned (.tuple #[v, .int .i64 (E : Int)]) ∧ TbC es E ∧ OB w' w.heap.size v (if E = 0 then tabB es else []) ∧ Below w.heap.size w w'
theorem ChC.of_not {es : List EntR} {E : Nat} (h : ChC es E) (hE : E ≠ 0) : TbC es E := by
  rcases h with ⟨h1, h2⟩ | ⟨h1, h2, h3⟩ | ⟨h1, h2, h3, h4⟩ | ⟨_, _, _, h4⟩
  · exact .inl ⟨h1, h2⟩
  · exact .inr (.inl ⟨h1, h2, h3⟩)
  · exact .inr (.inr (.inl ⟨h1, h2, h3, h4⟩))
  · exact absurd h4 hE
set_option maxHeartbeats 8000000 in
set_option maxRecDepth 100000 in
theorem tbuild_bad (A : Option Addr) (n c : Nat) (es : List EntR) (w : World) (h : REnts w A n es) (hc : n ≤ c) (hno : ∀ E, ChC es E → E ≠ 0) :
    Calls Try.prog 12 #[.slice A n c] w fun r w' => TBld w w' es r := by
  have H := hid h
  have HN := hid hno
  clear h hno
  go_enter Try.func12, Try.ntmps12
  go_wp2_with (go_at_call 32; (with_reducible refine (check_any A n c es _ H.out hc).mono ?_); rintro r w0 ⟨E0, rfl, hch, hb0⟩; have hE0 := HN.out E0 hch; have hE1 : ((E0 : Int) != 0) = true := (by simpa using hE0); have HB0 := hid hb0; have HC := hid hch; clear hch hb0)
  go_ret2
  exact ⟨E0, _, rfl, HC.out.of_not hE0, by rw [if_neg hE0]; exact OB.nil _ _, HB0.out⟩
theorem ch_cases (es : List EntR) : (∀ E, ChC es E → E ≠ 0) ∨ ((1 ≤ es.length ∧ es.length ≤ 4000) ∧ AllM es ∧ Srt es) := by
  by_cases h1 : es.length = 0 ∨ 4000 < es.length
  · left
    intro E hE
    rcases hE with ⟨_, h⟩ | ⟨h, _⟩ | ⟨h, _⟩ | ⟨h, _⟩ <;> omega
  · by_cases h2 : AllM es
    · by_cases h3 : Srt es
      · exact .inr ⟨by omega, h2, h3⟩
      · left
        intro E hE
        rcases hE with ⟨_, h⟩ | ⟨_, _, h⟩ | ⟨_, _, _, h⟩ | ⟨_, _, h, _⟩
        · omega
        · omega
        · omega
        · exact absurd h h3
    · left
      intro E hE
      rcases hE with ⟨_, h⟩ | ⟨_, _, h⟩ | ⟨_, h, _⟩ | ⟨_, h, _⟩
      · omega
      · omega
      · exact absurd h h2
      · exact absurd h h2
theorem tbuild_any (A : Option Addr) (n c : Nat) (es : List EntR) (w : World) (h : REnts w A n es) (hc : n ≤ c) :
    Calls Try.prog 12 #[.slice A n c] w fun r w' => TBld w w' es r := by
  have hl := h.1
  rcases ch_cases es with hno | ⟨h1, h2, h3⟩
  · exact tbuild_bad A n c es w h hc hno
  · refine (tbuild_fit A n c es w h hc (by omega) h2 h3).mono ?_
    intro r w' hb
    unfold BdF at hb
    split at hb
    · obtain ⟨rfl, hb⟩ := hb
      exact ⟨8, _, rfl, .inr (.inr (.inr (.inl ⟨h1, h2, h3, by assumption, rfl⟩))), OB.nil _ _, hb⟩
    · obtain ⟨v, rfl, ho, hb⟩ := hb
      exact ⟨0, v, rfl, .inr (.inr (.inr (.inr ⟨h1, h2, h3, by omega, rfl⟩))), ho, hb⟩
end Go.Proofs.Ytkkclkknpjapcaa
/-! ### TbK0 -/
namespace Go.Proofs.Ytkkclkknpjapcaa
open Go.RowKit
set_option linter.unusedVariables false
set_option linter.unusedSimpArgs false

/-- A table: its entries, its filter's bytes; all one's own. -/
def TabM (w : World) (base bt : Nat) (es : List EntR) (fil : List UInt8) : Prop := ∃ lv fv, w.heap[bt]? = some (.cells #[lv, fv] 81 (0, 0)) ∧ base ≤ bt ∧ ROw w base lv es ∧ OB w base fv fil
/-- What Open answers. -/
def OpnC (w w' : World) (xs : List UInt8) (r : Ending) : Prop :=
  match openF xs with
  | none => ∃ e : Int, e ≠ 0 ∧ r = .returned (.tuple #[.pointer none, .int .i64 e]) ∧ Below w.heap.size w w'
  | some es => ∃ bt, r = .returned (.tuple #[.pointer (some ⟨bt, 0, none⟩), .int .i64 0]) ∧ TabM w' w.heap.size bt es (filtB es) ∧ Below w.heap.size w w'
theorem OpnC.no {w w' : World} {xs : List UInt8} (h : openF xs = none) (e : Int) (he : e ≠ 0) (hb : Below w.heap.size w w') : OpnC w w' xs (.returned (.tuple #[.pointer none, .int .i64 e])) := by
  unfold OpnC
  rw [h]
  exact ⟨e, he, rfl, hb⟩
theorem OpnC.yes {w w' : World} {xs : List UInt8} {es : List EntR} {bt : Nat} (h : openF xs = some es) (ht : TabM w' w.heap.size bt es (filtB es)) (hb : Below w.heap.size w w') : OpnC w w' xs (.returned (.tuple #[.pointer (some ⟨bt, 0, none⟩), .int .i64 0])) := by
  unfold OpnC
  rw [h]
  exact ⟨bt, rfl, ht, hb⟩
theorem open_not {xs : List UInt8} (h : headOK xs ≠ true) : openF xs = none := by unfold openF; rw [if_neg h]
theorem open_go {xs : List UInt8} (h : headOK xs = true) : openF xs = (plcL (numOf xs 1 + 1) (cutS (bodyOf xs) (numOf xs 0) (numOf xs 1)) (numOf xs 0)).bind fun ps => (readT (bodyOf xs) ps).bind fun es => if fitTB es = true ∧ tabB es = xs then some es else none := by
  unfold openF
  rw [if_pos h]
  cases plcL (numOf xs 1 + 1) (cutS (bodyOf xs) (numOf xs 0) (numOf xs 1)) (numOf xs 0) with
  | none => rfl
  | some ps =>
    simp only [Option.bind_some]
    cases readT (bodyOf xs) ps <;> rfl
theorem head_iff {xs : List UInt8} : headOK xs = true ↔ (32 ≤ xs.length ∧ (footOf xs).drop 24 = magicB ∧ soundB (footOf xs) 0 20 = true ∧ (withinB (bodyOf xs).length (numOf xs 0) (numOf xs 1) = true ∧ withinB (bodyOf xs).length (numOf xs 2) (numOf xs 3) = true) ∧ (soundB (bodyOf xs) (numOf xs 0) (numOf xs 1) = true ∧ soundB (bodyOf xs) (numOf xs 2) (numOf xs 3) = true)) := by
  unfold headOK
  simp only [Bool.and_eq_true, decide_eq_true_iff, and_assoc]
/-- The places of an index lie within. -/
theorem plcL_in : ∀ (f : Nat) (xs : List UInt8) (size : Nat) (ps : List (Nat × Nat)), plcL f xs size = some ps → ∀ p ∈ ps, p.1 + p.2 + 4 ≤ size := by
  intro f
  induction f with
  | zero => intro xs size ps h; cases h
  | succ f ih =>
    intro xs size ps h
    by_cases h0 : xs = []
    · rw [plcL, if_pos h0] at h
      have := Option.some.inj h
      subst this
      intro p hp
      cases hp
    · by_cases h1 : (takeB xs 512).2.2 = 0
      · rw [plcL_step h0 h1 rfl] at h
        split at h
        · cases h
        · split at h
          · cases h
          · split at h
            · cases h
            · rename_i hw
              obtain ⟨qs, hq, rfl⟩ := Option.map_eq_some_iff.1 h
              intro p hp
              rcases List.mem_cons.1 hp with rfl | hp
              · exact withinB_le (by simpa using hw)
              · exact ih _ _ _ hq p hp
      · rw [plcL_bad h0 h1] at h
        cases h
theorem plcL_len : ∀ (f : Nat) (xs : List UInt8) (size : Nat) (ps : List (Nat × Nat)), plcL f xs size = some ps → ps.length ≤ f := by
  intro f
  induction f with
  | zero => intro xs size ps h; cases h
  | succ f ih =>
    intro xs size ps h
    by_cases h0 : xs = []
    · rw [plcL, if_pos h0] at h
      have := Option.some.inj h
      subst this
      simp
    · by_cases h1 : (takeB xs 512).2.2 = 0
      · rw [plcL_step h0 h1 rfl] at h
        split at h
        · cases h
        · split at h
          · cases h
          · split at h
            · cases h
            · obtain ⟨qs, hq, rfl⟩ := Option.map_eq_some_iff.1 h
              have := ih _ _ _ hq
              simp
              omega
      · rw [plcL_bad h0 h1] at h
        cases h
/-- The foot's numbers as they are read. -/
def nvU (xs : List UInt8) (k j : Nat) : Value := .int .u64 ((if j < k then numOf xs j else 0 : Nat) : Int)
def boxU (xs : List UInt8) (k : Nat) : Array Value := #[nvU xs k 0, nvU xs k 1, nvU xs k 2, nvU xs k 3, nvU xs k 4]
theorem boxU_set (xs : List UInt8) {k : Nat} (hk : k < 5) : (boxU xs k).setIfInBounds k (.int .u64 (numOf xs k : Int)) = boxU xs (k + 1) := by
  rcases (by omega : k = 0 ∨ k = 1 ∨ k = 2 ∨ k = 3 ∨ k = 4) with rfl | rfl | rfl | rfl | rfl
  all_goals rfl
theorem boxU_next {w : World} {b : Nat} {xs : List UInt8} {k : Nat} (hk : k < 5) {T : TypeId} (h : w.heap[b]? = some (.cells (boxU xs k) T (0, 0))) : (w.setCell ⟨b, k, none⟩ (.int .u64 (numOf xs k : Int))).heap[b]? = some (.cells (boxU xs (k + 1)) T (0, 0)) := by
  rw [heap_setCell_same _ _ _ _ _ _ h, boxU_set xs hk]
theorem boxU_cells {w : World} {b : Nat} {xs : List UInt8} {T : TypeId} {fr : Nat × Nat} (h : w.heap[b]? = some (.cells (boxU xs 5) T fr)) : w.cell? ⟨b, 0, none⟩ = some (.int .u64 (numOf xs 0 : Int)) ∧ w.cell? ⟨b, 1, none⟩ = some (.int .u64 (numOf xs 1 : Int)) ∧ w.cell? ⟨b, 2, none⟩ = some (.int .u64 (numOf xs 2 : Int)) ∧ w.cell? ⟨b, 3, none⟩ = some (.int .u64 (numOf xs 3 : Int)) :=
  ⟨box_at h 0 _ rfl, box_at h 1 _ rfl, box_at h 2 _ rfl, box_at h 3 _ rfl⟩
theorem box_ex {w : World} {b : Nat} {xs : List UInt8} {k : Nat} {T : TypeId} {fr : Nat × Nat} (hk : k < 5) (h : w.heap[b]? = some (.cells (boxU xs k) T fr)) : w.cell? ⟨b, k, none⟩ = some (nvU xs k k) := by
  rcases (by omega : k = 0 ∨ k = 1 ∨ k = 2 ∨ k = 3 ∨ k = 4) with rfl | rfl | rfl | rfl | rfl
  · exact box_at h 0 _ rfl
  · exact box_at h 1 _ rfl
  · exact box_at h 2 _ rfl
  · exact box_at h 3 _ rfl
  · exact box_at h 4 _ rfl
theorem numOf_lt (xs : List UInt8) (i : Nat) : numOf xs i < 4294967296 := readU_take4 _
theorem ReadC.none_ {w w' : World} {bt : Nat} {fv : Value} {er : Int} (h : ReadC w w' bt fv none er) : er ≠ 0 ∧ w.grownBy w' (some bt) := h
theorem ReadC.some_ {w w' : World} {bt : Nat} {fv : Value} {es : List EntR} {er : Int} (h : ReadC w w' bt fv (some es) er) : er = 0 ∧ ∃ lv, RdT w w' bt fv lv es := h
theorem bstr_list (xs : List UInt8) : (bstr xs).toList = xs := ByteArray.toList_mk xs
theorem magic_yes {ys : List UInt8} (h : ys = magicB) : ((bstr ys).toList == [104, 97, 108, 121, 97, 114, 100, 49]) = true ∧ ((bstr ys).toList != [104, 97, 108, 121, 97, 114, 100, 49]) = false := by
  rw [bstr_list, h]
  exact ⟨by decide, by decide⟩
theorem magic_no {ys : List UInt8} (h : ys ≠ magicB) : ((bstr ys).toList == [104, 97, 108, 121, 97, 114, 100, 49]) = false ∧ ((bstr ys).toList != [104, 97, 108, 121, 97, 114, 100, 49]) = true := by
  rw [bstr_list]
  have h1 : (ys == [104, 97, 108, 121, 97, 114, 100, 49]) = false := by rw [beq_eq_false_iff_ne]; exact h
  exact ⟨h1, by rw [bne, h1]; rfl⟩
theorem below_of_nil {w w' : World} {c : Nat} (h : w.grownBy w' (Value.slice none 0 c).ownBlock) : Below w.heap.size w w' := ⟨h.os, h.tape, h.output, h.size, fun i hi => h.block i hi (by intro e; cases e)⟩
theorem ROw.mono_ {w : World} {base base' : Nat} {v : Value} {es : List EntR} (h : ROw w base v es) (hb : base' ≤ base) : ROw w base' v es := by
  obtain ⟨V, h1, h2⟩ := h
  exact ⟨V, ⟨own_mono h1.1 hb, h1.2⟩, h2.mono fun x a hx => hx.mono hb⟩
theorem ROw.len_lt {w : World} {base : Nat} {v : Value} {es : List EntR} (h : ROw w base v es) : es.length ≤ 9223372036854775807 := by
  obtain ⟨V, h1, h2⟩ := h
  rw [← h2.1]
  rcases h1.1.2 with ⟨_, h3⟩ | ⟨_, cap, _, _, _, _, h3, h4, _⟩
  · omega
  · simp only [maxLen] at h4
    omega
end Go.Proofs.Ytkkclkknpjapcaa
/-! ### SSr -/
namespace Go.Proofs.Ytkkclkknpjapcaa
open Go.RowKit
set_option linter.unusedVariables false
set_option linter.unusedSimpArgs false

/-- What sort.Search finds: the first place at which p holds. -/
def SrC (w w' : World) (n : Nat) (p : Nat → Bool) (e : Ending) : Prop := ∃ m : Nat, e = .returned (.int .i64 (m : Int)) ∧ m ≤ n ∧ (∀ t, t < m → p t = false) ∧ (∀ t, m ≤ t → t < n → p t = true) ∧ Below w.heap.size w w'
set_option maxHeartbeats 8000000 in
set_option maxRecDepth 100000 in
theorem search_any (g : Nat) (cb : Array Value) (n : Nat) (p : Nat → Bool) (w : World) (eg : ∀ args u, (callFunc g args).run Try.prog u = .ok (.enter g args) u) (hsz : n < 4611686018427387904)
    (hf : ∀ (i : Nat) (u : World), Below w.heap.size w u → i < n → Calls Try.prog g (#[.int .i64 i] ++ cb) u fun e w' => e = .returned (.bool (p i)) ∧ Below u.heap.size u w')
    (hmono : ∀ a b, a ≤ b → b < n → p a = true → p b = true) :
    Calls Try.prog 81 #[.int .i64 n, .func (.func g) #[] cb] w fun e w' => SrC w w' n p e := by
  have HF := hid hf
  have HM := hid hmono
  clear hf hmono
  go_enter Try.func81, Try.ntmps81
  go_wp2
  go_loopw [5, 6] (fun a b wr => ∃ lo hi : Nat, a = .int .i64 lo ∧ b = .int .i64 hi ∧ lo ≤ hi ∧ hi ≤ n ∧ (∀ t, t < lo → p t = false) ∧ (∀ t, hi ≤ t → t < n → p t = true) ∧ Below w.heap.size w wr) (fun a b wr => (intOf b).toNat - (intOf a).toNat)
  case atStart => exact ⟨0, n, rfl, rfl, Nat.zero_le _, Nat.le_refl _, fun t ht => absurd ht (Nat.not_lt_zero _), fun t h1 h2 => by omega, Below.refl _ _⟩
  case round =>
    obtain ⟨lo, hi, rfl, rfl, hlh, hin, hlow, hhigh, hB⟩ := hrel
    have HLo := hid hlow
    have HHi := hid hhigh
    clear hlow hhigh
    by_cases hlt : lo < hi
    · have hc := HF.out ((lo + hi) / 2) wr hB (by omega)
      rw [show (((lo + hi) / 2 : Nat) : Int) = ((lo : Int) + (hi : Int)) / 2 by omega] at hc
      cases hp : p ((lo + hi) / 2) <;> rw [hp] at hc
      · have HP := hid hp
        clear hp
        go_wp2_with (go_at_fn g; refine hc.mono ?_; rintro e w' ⟨rfl, hb⟩)
        go_roundw
        case rel =>
          refine ⟨(lo + hi) / 2 + 1, hi, by rw [show ((lo : Int) + (hi : Int)) / 2 + 1 = (((lo + hi) / 2 + 1 : Nat) : Int) by omega], rfl, by omega, hin, fun t ht => ?_, HHi.out, below_then hB hb⟩
          cases h : p t with
          | false => rfl
          | true => have := HM.out t ((lo + hi) / 2) (by omega) (by omega) h; rw [HP.out] at this; cases this
        case measure => simp [intOf]; omega
      · have HP := hid hp
        clear hp
        go_wp2_with (go_at_fn g; refine hc.mono ?_; rintro e w' ⟨rfl, hb⟩)
        go_roundw
        case rel =>
          exact ⟨lo, (lo + hi) / 2, rfl, by rw [show ((lo : Int) + (hi : Int)) / 2 = (((lo + hi) / 2 : Nat) : Int) by omega], by omega, by omega, HLo.out, fun t ht htn => HM.out ((lo + hi) / 2) t ht htn HP.out, below_then hB hb⟩
        case measure => simp [intOf]; omega
    · obtain rfl : hi = lo := by omega
      go_wp2
      go_ret
      exact ⟨hi, rfl, hin, HLo.out, HHi.out, hB⟩
end Go.Proofs.Ytkkclkknpjapcaa
/-! ### BkS -/
namespace Go.Proofs.Ytkkclkknpjapcaa
open Go.RowKit
set_option linter.unusedVariables false
set_option linter.unusedSimpArgs false

end Go.Proofs.Ytkkclkknpjapcaa
/-! ### BkA -/
namespace Go.Proofs.Ytkkclkknpjapcaa
open Go.RowKit
set_option linter.unusedVariables false
set_option linter.unusedSimpArgs false

theorem rb_lit1' (w : World) (y : UInt8) (z : Int) (hz : z = y.toNat) (T : TypeId) (fr : Nat × Nat) (g : Nat) (hg : g = w.heap.size) : RB (w.alloc (.cells #[.int .u8 z] T fr)) (some ⟨g, 0, none⟩) 1 [y] := by
  subst hz hg
  exact RB.lit w [y] _ _ _ rfl (by simp)
def entX : EntR := mkEnt [97, 98] 3 false 0 [120]
theorem fit_x : FitK [entX] := by
  refine ⟨by decide, by decide, fun j hj => ?_, ordN_Srt fun i h1 h2 => by simp at h2; omega⟩
  obtain rfl : j = 0 := by simp at hj; omega
  decide
theorem enc_x : encK [entX] = [0, 2, 97, 98, 3, 0, 0, 1, 120, 0, 0, 0, 0, 0, 0, 0, 1] := by decide +kernel
theorem bstr_x : bstr [0, 2, 97, 98, 3, 0, 0, 1, 120, 0, 0, 0, 0, 0, 0, 0, 1] = ⟨#[0, 2, 97, 98, 3, 0, 0, 1, 120, 0, 0, 0, 0, 0, 0, 0, 1]⟩ := by decide +kernel
theorem rents_x (U : World) (k1 k2 g : Nat) (hg : g = U.heap.size) (h1 : RB U (some ⟨k1, 0, none⟩) 2 [97, 98]) (h2 : RB U (some ⟨k2, 0, none⟩) 1 [120]) :
    REnts (U.alloc (.cells #[.slice (some ⟨k1, 0, none⟩) 2 2, .int .i64 3, .bool false, .int .i64 0, .slice (some ⟨k2, 0, none⟩) 1 1] 42)) (some ⟨g, 0, none⟩) 1 [entX] := by
  subst hg
  have hb := heap_alloc_new U (.cells #[.slice (some ⟨k1, 0, none⟩) 2 2, .int .i64 3, .bool false, .int .i64 0, .slice (some ⟨k2, 0, none⟩) 1 1] 42)
  have hB := below_alloc' (Below.refl U.heap.size U) (.cells #[.slice (some ⟨k1, 0, none⟩) 2 2, .int .i64 3, .bool false, .int .i64 0, .slice (some ⟨k2, 0, none⟩) 1 1] 42)
  refine ⟨rfl, by omega, fun _ => ⟨_, rfl, fun j hj => ?_⟩⟩
  obtain rfl : j = 0 := by omega
  exact ⟨_, 2, 2, _, 1, 1, box_at hb 0 _ rfl, box_at hb 1 _ rfl, box_at hb 2 _ rfl, box_at hb 3 _ rfl, box_at hb 4 _ rfl, h1.below hB, h2.below hB, by omega, by omega⟩
end Go.Proofs.Ytkkclkknpjapcaa
/-! ### MmQn -/
namespace Go.Proofs.Ytkkclkknpjapcaa
open Go.RowKit
set_option linter.unusedVariables false
set_option linter.unusedSimpArgs false

/-- What Put leaves. -/
def PutC (W0 : World) (base : Nat) (w w' : World) (es : List EntR) (e : EntR) (r : Ending) : Prop :=
  ∃ v V, r = .returned (.tuple #[v, .bool (!hasE es e)]) ∧ OV w' base 42 5 v V ∧ RelV noEnt (PER W0) V (putE es e) ∧ Below w.heap.size w w'
theorem below_pre {W0 w wr : World} (h : Below W0.heap.size W0 w) (k : Below w.heap.size w wr) : Below W0.heap.size W0 wr := below_then h k
set_option maxHeartbeats 32000000 in
set_option maxRecDepth 100000 in
theorem refputE_any (W0 : World) (base : Nat) (A : Option Addr) (n c : Nat) (V : List (List Value)) (es : List EntR) (Ak : Option Addr) (nk ck : Nat) (Av : Option Addr) (nv cv : Nat) (e : EntR) (w : World) (hW : Below W0.heap.size W0 w)
    (hown : OV w base 42 5 (.slice A n c) V) (hrel : RelV noEnt (PER W0) V es) (hbase : base ≤ w.heap.size) (hk : RB W0 Ak nk (eKey e)) (hv : RB W0 Av nv (eVal e)) (hck : nk ≤ ck) (hcv : nv ≤ cv) (hl : es.length = n) (hn : n ≤ 1000) :
    Calls Try.prog 48 #[.slice A n c, .agg #[.slice Ak nk ck, .int .i64 (eSeq e), .bool (eGone e), .int .i64 (eTil e), .slice Av nv cv]] w fun r w' => PutC W0 base w w' es e r := by
  obtain ⟨P, hP⟩ : ∃ P, posE es e = P := ⟨_, rfl⟩
  have hPle : P ≤ n := by rw [← hP, ← hl]; exact pos_le es e
  have hVl : V.length = n := by rw [hrel.1, hl]
  have hbx := heap_alloc_new w (.cells #[.slice Ak nk ck, .int .i64 (eSeq e), .bool (eGone e), .int .i64 (eTil e), .slice Av nv cv] 42)
  have hB0 : Below w.heap.size w (w.alloc (.cells #[.slice Ak nk ck, .int .i64 (eSeq e), .bool (eGone e), .int .i64 (eTil e), .slice Av nv cv] 42)) := below_alloc' (Below.refl _ _) _
  have hnc : n ≤ c := own_cap (by have := hown.1; rw [hVl] at this; exact this)
  -- an element, in any later world
  have hel : ∀ k, k < n → ∃ g Ak' nk' ck' Av' nv' cv', A = some ⟨g, 0, none⟩ ∧ (∀ wr, Below w.heap.size w wr → wr.cell? ⟨g, k * 5, none⟩ = some (.slice Ak' nk' ck') ∧ wr.cell? ⟨g, k * 5 + 1, none⟩ = some (.int .i64 (eSeq (elt noEnt es k))) ∧ wr.cell? ⟨g, k * 5 + 2, none⟩ = some (.bool (eGone (elt noEnt es k))) ∧
      wr.cell? ⟨g, k * 5 + 3, none⟩ = some (.int .i64 (eTil (elt noEnt es k))) ∧ wr.cell? ⟨g, k * 5 + 4, none⟩ = some (.slice Av' nv' cv') ∧ RB wr Ak' nk' (eKey (elt noEnt es k))) := by
    intro k hk
    obtain ⟨g, c', hve, _, _, _⟩ := hown.form (by omega)
    injection hve with h1 h2 h3
    subst h1
    have hown' : OV w base 42 5 (.slice (some ⟨g, 0, none⟩) V.length c) V := by rw [hVl]; exact hown
    obtain ⟨Ak', nk', ck', Av', nv', cv', hx, hr1, hr2, _, _⟩ := hrel.2 k (by omega)
    have hc := fun i (hi : i < 5) => hown'.cell (j := k) (i := i) (by omega) hi
    rw [hx] at hc
    refine ⟨g, Ak', nk', ck', Av', nv', cv', rfl, fun wr hb => ⟨below_cell hb (hc 0 (by omega)), below_cell hb (hc 1 (by omega)), below_cell hb (hc 2 (by omega)), below_cell hb (hc 3 (by omega)), below_cell hb (hc 4 (by omega)), hr1.below (below_pre hW hb)⟩⟩
  have HEl := hid hel
  have HOwn := hid hown
  have HRel := hid hrel
  have HW := hid hW
  have HK := hid hk
  have HV := hid hv
  have HVl := hid hVl
  have HP := hid hP
  have HL := hid hl
  have HBb := hid hbase
  have HC := hid (⟨hck, hcv⟩ : _ ∧ _)
  have HLt : Hid (∀ j, j < P → aheadR (elt noEnt es j) e < 0) := fun j hj => aheadR_neg.2 (pos_lt (by rw [hP]; exact hj))
  have HAt : Hid (P < n → ¬ aheadR (elt noEnt es P) e < 0) := fun h => by
    rw [aheadR_neg]
    have := pos_at (es := es) (e := e) (by rw [hP, hl]; exact h)
    rw [hP] at this
    rw [this]
    simp
  have HHas : Hid (∀ b : Bool, (P < n ∧ aheadR (elt noEnt es P) e = 0 ↔ b = true) → hasE es e = b) := fun b hb => by
    have := has_pos (es := es) (e := e)
    rw [hP, hl, hb] at this
    cases h1 : hasE es e <;> cases b <;> simp_all
  clear hel hown hrel hW hk hv hVl hP hl hbase hck hcv
  go_enter Try.func48, Try.ntmps48
  go_wp2
  generalize w.alloc (.cells #[.slice Ak nk ck, .int .i64 (eSeq e), .bool (eGone e), .int .i64 (eTil e), .slice Av nv cv] 42) = W1 at *
  obtain ⟨b, hb⟩ : ∃ b, w.heap.size = b := ⟨_, rfl⟩
  have HbE := hid hb
  rw [hb] at hbx ⊢
  clear hb
  go_loopw [6] (fun i wr => ∃ k : Nat, k ≤ P ∧ i = .int .i64 k ∧ Below W1.heap.size W1 wr) (fun i wr => P - (intOf i).toNat)
  case atStart => exact ⟨0, Nat.zero_le _, rfl, Below.refl _ _⟩
  case round =>
    obtain ⟨k, hk, rfl, hBr⟩ := hrel
    have hbr := below_then hB0 hBr
    have hbxr := blk_below hBr hbx
    have e0 := box_at hbxr 0 _ rfl
    have e1 := box_at hbxr 1 _ rfl
    have e2 := box_at hbxr 2 _ rfl
    have e3 := box_at hbxr 3 _ rfl
    have e4 := box_at hbxr 4 _ rfl
    have HKr := hid (HK.out.below (below_pre HW.out hbr))
    by_cases hlt : k < P
    · have hkn : k < n := by omega
      obtain ⟨g, Ak', nk', ck', Av', nv', cv', rfl, hcells⟩ := HEl.out k hkn
      obtain ⟨a0, a1, a2, a3, a4, ar⟩ := hcells wr hbr
      have hneg := HLt.out k hlt
      generalize elt noEnt es k = x at *
      have HAr := hid ar
      obtain ⟨C, hC⟩ : ∃ C, aheadR x e = C := ⟨_, rfl⟩
      rw [hC] at hneg
      have HCm := hid hC
      have HD := hid (decide_eq_true hneg)
      clear ar hC hneg hcells
      go_wp2
      go_cut [6, 19] (fun x6 v wx => x6 = .int .i64 (k : Int) ∧ v = .bool true ∧ Below W1.heap.size W1 wx)
      case first =>
        go_region_with (go_at_call 65; (with_reducible refine (refahead_any Ak' nk' ck' Av' nv' cv' x Ak nk ck Av nv cv e _ HAr.out.drew HKr.out.drew).mono ?_); rintro r w1 ⟨rfl, hb1⟩; rw [HCm.out])
        all_goals
          go_wp2
          go_meet
          exact ⟨rfl, by rw [HD.out], below_then hBr (below_then (below_drew (Below.refl _ _)) hb1)⟩
      case rest =>
        obtain ⟨rfl, rfl, hB3⟩ := hcut
        go_wp2
        go_roundw
        case rel => exact ⟨k + 1, by omega, by go_num, hB3⟩
        case measure => simp [intOf]; omega
    · obtain rfl : k = P := by omega
      obtain ⟨bb, hbb⟩ : ∃ bb : Bool, (k < n ∧ aheadR (elt noEnt es k) e = 0 ↔ bb = true) := ⟨decide (k < n ∧ aheadR (elt noEnt es k) e = 0), by simp⟩
      have HBB := hid hbb
      have HHs := hid (HHas.out bb hbb)
      have hat := HAt.out
      clear hbb HHas hlt HLt hat
      go_wp2
      go_cut [6, 19] (fun x6 v wx => x6 = .int .i64 (k : Int) ∧ v = .bool false ∧ Below W1.heap.size W1 wx)
      case first =>
        by_cases hkn : k < n
        · obtain ⟨g, Ak', nk', ck', Av', nv', cv', rfl, hcells⟩ := HEl.out k hkn
          obtain ⟨a0, a1, a2, a3, a4, ar⟩ := hcells wr hbr
          have hneg := HAt.out hkn
          clear HAt HBB HEl HP
          generalize elt noEnt es k = x at *
          have HAr := hid ar
          obtain ⟨C, hC⟩ : ∃ C, aheadR x e = C := ⟨_, rfl⟩
          rw [hC] at hneg
          have HCm := hid hC
          have HD : Hid (decide (C < 0) = false) := decide_eq_false (by omega)
          clear ar hC hneg hcells
          go_region_with (go_at_call 65; (with_reducible refine (refahead_any Ak' nk' ck' Av' nv' cv' x Ak nk ck Av nv cv e _ HAr.out.drew HKr.out.drew).mono ?_); rintro r w1 ⟨rfl, hb1⟩; rw [HCm.out])
          all_goals
            go_wp2
            go_meet
            exact ⟨rfl, by rw [HD.out], below_then hBr (below_then (below_drew (Below.refl _ _)) hb1)⟩
        · have hd : decide ((k : Int) < (n : Int)) = false := decide_eq_false (by omega)
          clear HAt HBB HEl HP
          go_quiet (fail)
          go_wp2
          go_meet
          exact ⟨rfl, rfl, below_drewN hBr _⟩
      case rest =>
        obtain ⟨rfl, rfl, hB3⟩ := hcut
        clear hBr hbr hbxr e0 e1 e2 e3 e4 HKr
        have hbr := below_then hB0 hB3
        have hbxr := blk_below hB3 hbx
        have e0 := box_at hbxr 0 _ rfl
        have e1 := box_at hbxr 1 _ rfl
        have e2 := box_at hbxr 2 _ rfl
        have e3 := box_at hbxr 3 _ rfl
        have e4 := box_at hbxr 4 _ rfl
        have HKr := hid (HK.out.below (below_pre HW.out hbr))
        go_wp2
        go_cut [34] (fun v wx => v = .bool bb ∧ Below W1.heap.size W1 wx)
        case first =>
          by_cases hkn : k < n
          · obtain ⟨g, Ak', nk', ck', Av', nv', cv', rfl, hcells⟩ := HEl.out k hkn
            obtain ⟨a0, a1, a2, a3, a4, ar⟩ := hcells _ hbr
            have hz := HBB.out
            clear HAt HBB HEl HP HHs
            generalize elt noEnt es k = x at *
            have HAr := hid ar
            obtain ⟨C, hC⟩ : ∃ C, aheadR x e = C := ⟨_, rfl⟩
            rw [hC] at hz
            have HCm := hid hC
            have HD : Hid ((C == 0) = bb) := by unfold Hid; cases bb <;> simp_all
            clear ar hC hcells hz
            go_region_with (go_at_call 65; (with_reducible refine (refahead_any Ak' nk' ck' Av' nv' cv' x Ak nk ck Av nv cv e _ HAr.out.drew HKr.out.drew).mono ?_); rintro r w1 ⟨rfl, hb1⟩; rw [HCm.out])
            all_goals
              go_wp2
              go_meet
              exact ⟨by rw [HD.out], below_then hB3 (below_then (below_drew (Below.refl _ _)) hb1)⟩
          · have hd : decide ((k : Int) < (n : Int)) = false := decide_eq_false (by omega)
            have hbf : bb = false := by
              cases hq : bb
              · rfl
              · exact absurd (HBB.out.2 hq).1 hkn
            clear HAt HBB HEl HP HHs
            subst hbf
            go_quiet (fail)
            go_wp2
            go_meet
            exact ⟨rfl, below_drewN hB3 _⟩
        case rest =>
          obtain ⟨rfl, hB4⟩ := hcut
          clear hbr hbxr e0 e1 e2 e3 e4 HKr hB3
          have hb4 := below_then hB0 hB4
          cases bb
          · have hp : putE es e = es.take k ++ e :: es.drop k := by
              unfold putE
              rw [HHs.out, ins_pos, HP.out]
              rfl
            have HPut := hid hp
            clear hp HAt HBB HEl HP
            obtain ⟨c2, hs1, hr1, _⟩ := cutE_hi (A := A) hnc hPle (k : Int) rfl
            obtain ⟨A3, c3, hs2, hr2, _⟩ := cutE_lo (A := A) hnc hPle (k : Int) rfl
            have hbx4 := blk_below hB4 hbx
            have hRd := (HOwn.out.below hb4).reads HVl.out
            have hRd1 := hr1 _ _ hRd
            have hRd2 := hr2 _ _ hRd
            rw [← flat_take V k HOwn.out.2] at hRd1
            rw [← flat_drop V k HOwn.out.2] at hRd2
            have h51 : ∀ x ∈ V.take k, x.length = 5 := fun x hx => HOwn.out.2 x (List.mem_of_mem_take hx)
            have h52 : ∀ x ∈ V.drop k, x.length = 5 := fun x hx => HOwn.out.2 x (List.mem_of_mem_drop hx)
            have hm1 : (V.take k).length = k := by rw [List.length_take, HVl.out]; omega
            have hm2 : (V.drop k).length = n - k := by rw [List.length_drop, HVl.out]
            have hu1 : ∀ u ∈ (V.take k).flatten, u.oneCell' = true := (HRel.out.take k).ones
            have hu2 : ∀ u ∈ (V.drop k).flatten, u.oneCell' = true := (HRel.out.drop k).ones
            have HR1 := hid hRd1
            have HR2 := hid hRd2
            have HM := hid (⟨hm1, hm2, h51, h52, hu1, hu2⟩ : _ ∧ _ ∧ _ ∧ _ ∧ _ ∧ _)
            have hBc : Below wc.heap.size wc wc := Below.refl _ _
            have hBd : Below wc.heap.size wc wc.drew := (Below.refl _ _).drew
            have HSG : Hid (∀ w' : World, Below wc.heap.size wc w' → (w'.cell? ⟨b, 0, none⟩ = some (.slice Ak nk ck) ∧ w'.cell? ⟨b, 1, none⟩ = some (.int .i64 (eSeq e)) ∧ w'.cell? ⟨b, 2, none⟩ = some (.bool (eGone e)) ∧ w'.cell? ⟨b, 3, none⟩ = some (.int .i64 (eTil e)) ∧ w'.cell? ⟨b, 4, none⟩ = some (.slice Av nv cv))) := fun w' hw => by
              have h := blk_below hw hbx4
              exact ⟨box_at h 0 _ rfl, box_at h 1 _ rfl, box_at h 2 _ rfl, box_at h 3 _ rfl, box_at h 4 _ rfl⟩
            clear hRd hRd1 hRd2 hr1 hr2 h51 h52 hm1 hm2 hu1 hu2 hbx4
            have HFin : Hid (∀ v3 w3, OV w3 wc.heap.size 42 5 v3 ((([] ++ V.take k) ++ [[.slice Ak nk ck, .int .i64 (eSeq e), .bool (eGone e), .int .i64 (eTil e), .slice Av nv cv]]) ++ V.drop k) → Below wc.heap.size wc w3 → PutC W0 base w w3 es e (.returned (.tuple #[v3, .bool true]))) := by
              intro v3 w3 h1 h2
              refine ⟨v3, _, by rw [HHs.out]; rfl, ⟨own_mono h1.1 (Nat.le_trans HBb.out hb4.size), h1.2⟩, ?_, below_then hb4 h2⟩
              rw [HPut.out, show es.take k ++ e :: es.drop k = (([] ++ es.take k) ++ [e]) ++ es.drop k by simp]
              refine RelV.app (RelV.app (RelV.app RelV.nil (HRel.out.take k)) ?_) (HRel.out.drop k)
              exact RelV.snoc RelV.nil ⟨Ak, nk, ck, Av, nv, cv, rfl, HK.out, HV.out, HC.out.1, HC.out.2⟩
            go_wp2
            go_region_held_law (fun w' => w'.cell? ⟨b, 0, none⟩ = some (.slice Ak nk ck) ∧ w'.cell? ⟨b, 1, none⟩ = some (.int .i64 (eSeq e)) ∧ w'.cell? ⟨b, 2, none⟩ = some (.bool (eGone e)) ∧ w'.cell? ⟨b, 3, none⟩ = some (.int .i64 (eTil e)) ∧ w'.cell? ⟨b, 4, none⟩ = some (.slice Av nv cv))
              (first | exact HSG.out _ (by assumption) | exact HSG.out _ (below_alloc' (by assumption) _))
              (first
                | (refine stepV_append 22 42 _ 5 72 Try.underlying22 eninfo rfl (by omega) wc _ (by rfl) (.const (.slice none 0 0)) (.tmp 38) (by rfl) (.slice none 0 0) [] (by rfl) (OV.nil _ _ _ _) A k c2 (V.take k) (by rfl) (HR1.out.below (by first | assumption | exact below_alloc' (by assumption) _)) HM.out.2.2.1 HM.out.1 HM.out.2.2.2.2.1 (by simp only [maxLen, List.length_nil]; omega) (by simp only [List.length_nil]; omega) (by first | assumption | exact below_alloc' (by assumption) _) ?_; intro v1 w1 hown1 hB1 hg1)
                | (refine stepV_append 22 42 _ 5 72 Try.underlying22 eninfo rfl (by omega) wc _ (by rfl) (.tmp 39) (.tmp 41) (by rfl) v1 ([] ++ V.take k) (by rfl) (hown1.below (below_alloc' (Below.refl _ _) _)) _ 1 1 [[.slice Ak nk ck, .int .i64 (eSeq e), .bool (eGone e), .int .i64 (eTil e), .slice Av nv cv]] (by rfl) (Reads.block (heap_alloc_new w1 _) rfl) (by intro x hx; rw [List.mem_singleton] at hx; subst hx; rfl) rfl (ones5 rfl rfl rfl rfl rfl) (by have := HM.out.1; simp only [maxLen, List.nil_append]; omega) (by have := HM.out.1; simp only [List.nil_append]; omega) (below_alloc' hB1 _) ?_; intro v2 w2 hown2 hB2 hg2)
                | (refine stepV_append 22 42 _ 5 72 Try.underlying22 eninfo rfl (by omega) wc _ (by rfl) (.tmp 39) (.tmp 41) (by rfl) v1 ([] ++ V.take k) (by rfl) hown1 _ 1 1 [[.slice Ak nk ck, .int .i64 (eSeq e), .bool (eGone e), .int .i64 (eTil e), .slice Av nv cv]] (by rfl) (Reads.block (blk_grown' hg1 (heap_alloc_new _ _) (by intro e; cases e)) rfl) (by intro x hx; rw [List.mem_singleton] at hx; subst hx; rfl) rfl (ones5 rfl rfl rfl rfl rfl) (by have := HM.out.1; simp only [maxLen, List.nil_append]; omega) (by have := HM.out.1; simp only [List.nil_append]; omega) hB1 ?_; intro v2 w2 hown2 hB2 hg2)
                | (refine stepV_append 22 42 _ 5 72 Try.underlying22 eninfo rfl (by omega) wc _ (by rfl) (.tmp 42) (.tmp 45) (by rfl) v2 (([] ++ V.take k) ++ [[.slice Ak nk ck, .int .i64 (eSeq e), .bool (eGone e), .int .i64 (eTil e), .slice Av nv cv]]) (by rfl) hown2 A3 (n - k) c3 (V.drop k) (by rfl) (HR2.out.below hB2) HM.out.2.2.2.1 HM.out.2.1 HM.out.2.2.2.2.2 (by have := HM.out.1; simp only [maxLen, List.nil_append, List.length_append, List.length_cons, List.length_nil]; omega) (by have := HM.out.1; simp only [List.nil_append, List.length_append, List.length_cons, List.length_nil]; omega) hB2 ?_; intro v3 w3 hown3 hB3 hg3))
            all_goals
              go_wp2
              go_ret2
              refine (congrArg (PutC W0 base w w3 es e) ?_).mpr (HFin.out _ _ hown3 hB3)
              simp
          · have hp : putE es e = es := by unfold putE; rw [HHs.out]; rfl
            go_wp2
            go_ret2
            exact ⟨_, V, by rw [HHs.out]; rfl, HOwn.out.below hb4, by rw [hp]; exact HRel.out, by have := HbE.out; subst this; exact hb4⟩
end Go.Proofs.Ytkkclkknpjapcaa
