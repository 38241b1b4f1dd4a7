/- The walk of one law, with what it wants beyond the shared texts. -/
import Derived.StillTailTactics
import Derived.Test.YtkkclkknpjapcaaDoorS20
import Derived.Test.YtkkclkknpjapcaaDoorS35
import Derived.Test.YtkkclkknpjapcaaDoorS05
/-! ### TbV -/
namespace Go.Proofs.YtkkclkknpjapcaaDoor
open Go.RowKit
set_option linter.unusedVariables false
set_option linter.unusedSimpArgs false

/-- The mem that the loop fills. -/
def MemJ (w wr : World) (bm : Nat) (es : List EntR) : Prop := ∃ l : List NodeR, MemL wr w.heap.size bm l ∧ l.map nEnt = es ∧ Below w.heap.size w wr
theorem MemJ.size {w wr : World} {bm : Nat} {es : List EntR} (h : MemJ w wr bm es) : Below w.heap.size w wr := by
  obtain ⟨l, _, _, hb⟩ := h
  exact hb
theorem MemJ.below {w wr w' : World} {bm : Nat} {es : List EntR} (h : MemJ w wr bm es) (hb : Below wr.heap.size wr w') : MemJ w w' bm es := by
  obtain ⟨l, h1, h2, h3⟩ := h
  exact ⟨l, h1.below hb, h2, below_then h3 hb⟩
theorem mem_add_any {w wr : World} {bm : Nat} {L : List EntR} {k : Nat} {Ak : Option Addr} {nk ck : Nat} {Av : Option Addr} {nv cv : Nat} (h : MemJ w wr bm (L.take k)) (hs : Srt L) (hm : AllM L) (hk : k < L.length) (hl : L.length ≤ 1000) (hT : TabOK wr) (h1 : RB wr Ak nk (eKey (elt noEnt L k))) (h2 : RB wr Av nv (eVal (elt noEnt L k))) :
    Calls Tryd.prog 7 #[.pointer (some ⟨bm, 0, none⟩), .agg #[.slice Ak nk ck, .int .i64 (eSeq (elt noEnt L k)), .bool (eGone (elt noEnt L k)), .int .i64 (eTil (elt noEnt L k)), .slice Av nv cv]] wr fun r w' => r = .returned (.int .i64 0) ∧ MemJ w w' bm (L.take (k + 1)) := by
  obtain ⟨l, hM, he, hb⟩ := h
  have hll : l.length ≤ 1000 := by
    have := congrArg List.length he
    rw [List.length_map, List.length_take] at this
    omega
  obtain ⟨hadd, hr⟩ := add_behind hs hm hk
  refine (add_any w.heap.size bm l Ak nk ck Av nv cv (elt noEnt L k) wr hM hT h1 h2 hll).mono ?_
  rintro r w' ⟨rfl, l', hM', he', _, hb', _⟩
  rw [he, hr]
  exact ⟨rfl, l', hM', by rw [he', he, hadd], hb.trans hb'⟩
theorem mem_get_any {w wr : World} {bm : Nat} {L : List EntR} (h : MemJ w wr bm L) (hs : Srt L) (Ar : Option Addr) (nr cr : Nat) (key : List UInt8) (s : Int) (hk : RB wr Ar nr key) :
    Calls Tryd.prog 11 #[.pointer (some ⟨bm, 0, none⟩), .slice Ar nr cr, .int .i64 s] wr fun r w' => GetC wr w' (getR key s L).1 (getR key s L).2 r := by
  obtain ⟨l, hM, he, hb⟩ := h
  have := get_any w.heap.size bm l Ar nr cr key s wr hM hk
  rw [he, getE_R hs] at this
  exact this
theorem mem_list_any {w wr : World} {bm : Nat} {L : List EntR} (h : MemJ w wr bm L) (hs : Srt L) (hm : AllM L) (hl : L.length ≤ 1000) (Ar : Option Addr) (nr cr : Nat) (frm : List UInt8) (At : Option Addr) (nt ct : Nat) (tk : List UInt8) (hk : RB wr Ar nr frm) (ht : RB wr At nt tk) :
    Calls Tryd.prog 15 #[.pointer (some ⟨bm, 0, none⟩), .slice Ar nr cr, .slice At nt ct] wr fun r w' => ListC wr w' (listR frm tk L) r := by
  obtain ⟨l, hM, he, hb⟩ := h
  have hll : l.length ≤ 1000 := by
    have := congrArg List.length he
    rw [List.length_map] at this
    omega
  have := list_any w.heap.size bm l Ar nr cr frm At nt ct tk wr hM hk ht hll
  rw [he, listE_R hs (fun x hx => by obtain ⟨j, hj, rfl⟩ := mem_elt hx; exact hm j hj)] at this
  exact this
theorem mem_all_any {w wr : World} {bm : Nat} {L : List EntR} (h : MemJ w wr bm L) (hl : L.length ≤ 1000) :
    Calls Tryd.prog 17 #[.pointer (some ⟨bm, 0, none⟩)] wr fun r w' => ListC wr w' L r := by
  obtain ⟨l, hM, he, hb⟩ := h
  have hll : l.length ≤ 1000 := by
    have := congrArg List.length he
    rw [List.length_map] at this
    omega
  have := all_any w.heap.size bm l wr hM hll
  rw [he] at this
  exact this
set_option maxHeartbeats 64000000 in
set_option maxRecDepth 100000 in
theorem TableMems_walk (A : Option Addr) (n c : Nat) (es : List EntR) (Ar : Option Addr) (nr cr : Nat) (key : List UInt8) (Af : Option Addr) (nf cf : Nat) (frm : List UInt8) (At : Option Addr) (nt ct : Nat) (tk : List UInt8) (s : Int) (w : World) (h : REnts w A n es) (hc : n ≤ c) (hk : RB w Ar nr key) (hkc : nr ≤ cr) (hf : RB w Af nf frm) (hfc : nf ≤ cf) (ht : RB w At nt tk) (htc : nt ≤ ct) (hs : (Lit.int .i64 s).wf = true) (hT : TabOK w) :
    Calls Tryd.prog 3 #[.slice A n c, .slice Ar nr cr, .slice Af nf cf, .slice At nt ct, .int .i64 s] w fun e w' => e = .returned (.bool true) ∧ Below w.heap.size w w' := by
  have H := hid h
  have HK := hid hk
  have HF := hid hf
  have HTk := hid ht
  have HTb := hid hT
  clear h hk hf ht hkc hfc htc hs hT
  go_enter Tryd.func3, Tryd.ntmps3
  go_upto_region 2 with (go_at_call 4; (with_reducible refine (tsorted_any A n c es _ H.out).mono ?_); rintro r w1 ⟨A1, c1, L, rfl, hc1, hr1, hs1, hm1, hl1, hb1⟩; have HR1 := hid hr1; have HS1 := hid (⟨hs1, hm1⟩ : _ ∧ _); have HB1 := hid hb1; clear hr1 hs1 hm1 hb1)
  by_cases hL : L.length = 0
  · have hzz : ((L.length : Int) == 0) = true := by rw [beq_iff_eq]; omega
    clear hL
    go_wp2_with (go_at_call 5; (with_reducible refine (tawake_any _).mono ?_); rintro e w6 ⟨rfl, hb6⟩; have HB6 := hid (below_then HB1.out hb6))
    go_ret
    exact ⟨by first | rfl | simp, HB6.out⟩
  · have HFit : Hid (FitT L) := hid (fit_small HS1.out.2 HS1.out.1 (by omega) (by omega))
    have hzz : ((L.length : Int) == 0) = false := by rw [beq_eq_false_iff_ne]; omega
    have hL2 : L.length ≤ 1000000 := by omega
    have hL3 : L.length ≤ 1000 := by omega
    go_wp2_with (go_at_call 6; (with_reducible refine (new_any w1.heap.size w1 (Nat.le_refl _)).mono ?_); rintro r w2 ⟨rfl, hm2, hb2⟩)
    have HJ0 : Hid (MemJ w1 w2 w1.heap.size (L.take 0)) := hid ⟨[], hm2, rfl, hb2⟩
    obtain ⟨bm, hbm⟩ : ∃ bm, w1.heap.size = bm := ⟨_, rfl⟩
    have HJ1 : Hid (MemJ w1 w2 bm (L.take 0)) := hid (by rw [← hbm]; exact HJ0.out)
    rw [hbm]
    clear hm2 hb2 HJ0 hbm
    go_loopw [32] (fun i wr => ∃ k : Nat, k ≤ L.length ∧ i = .int .i64 k ∧ MemJ w1 wr bm (L.take k)) (fun i wr => L.length - (intOf i).toNat)
    case atStart => exact ⟨0, Nat.zero_le _, rfl, HJ1.out⟩
    case round =>
      clear HJ1
      obtain ⟨k, hk, rfl, hJ⟩ := hrel
      have HJ := hid hJ
      have HBr := hid hJ.size
      clear hJ
      by_cases hlt : k < L.length
      · obtain ⟨ad, rfl, hen⟩ := HR1.out.at_ hlt
        obtain ⟨Ak, nk, ck, Av, nv, cv, a0, a1, a2, a3, a4, a5, a6, a7, a8⟩ := hen
        have a0 := below_cell HBr.out a0
        have a1 := below_cell HBr.out a1
        have a2 := below_cell HBr.out a2
        have a3 := below_cell HBr.out a3
        have a4 := below_cell HBr.out a4
        have HA := hid (fun (W : World) (hW : Below wr.heap.size wr W) => mem_add_any (Ak := Ak) (nk := nk) (ck := ck) (Av := Av) (nv := nv) (cv := cv) (HJ.out.below hW) HS1.out.1 HS1.out.2 hlt hL3 (HTb.out.below (below_then (below_then HB1.out HBr.out) hW)) (a5.below (below_then HBr.out hW)) (a6.below (below_then HBr.out hW)))
        clear a5 a6
        generalize elt noEnt L k = x at *
        go_wp2_with (go_at_call 7; refine (HA.out _ (below_alloc' (Below.refl _ _) _)).mono ?_; rintro r w3 ⟨rfl, hJ3⟩)
        go_roundw
        case rel => exact ⟨k + 1, by omega, by go_num, hJ3⟩
        case measure => simp [intOf]; omega
      · obtain rfl : k = L.length := by omega
        have HM : Hid (MemJ w1 wr bm L) := hid (by have := HJ.out; rwa [List.take_length] at this)
        have HRr := hid (HR1.out.below HBr.out)
        have HBw := hid (below_then HB1.out HBr.out)
        clear HJ hlt hk HR1
        go_upto_region 15 with (first
          | (go_at_call 8; (with_reducible refine (build_tab A1 L.length c1 L _ HRr.out hc1 HFit.out).mono ?_); rintro r w2 ⟨A2, n2, c2, rfl, hn2, ho2, hr2, hc2, hb2⟩; have HR2 := hid hr2; have HB2 := hid (below_then HBw.out hb2); have HC2 := hid hb2; clear ho2 hr2 hn2 hb2)
          | (go_at_call 9; (with_reducible refine (open_tab A2 n2 c2 L _ HR2.out hc2 HFit.out).mono ?_); rintro r w3 ⟨bt, rfl, ht3, hb3⟩; have HT3 := hid ht3; have HB3 := hid (below_then HB2.out hb3); have HC3 := hid (below_then HC2.out hb3); clear ht3 hb3))
        have HM3 := hid (HM.out.below HC3.out)
        have HK3 := hid (HK.out.below HB3.out)
        have HGt := hid (tget_any bt L (filtB L) Ar nr cr key s w3 HT3.out HK3.out HS1.out.1 HS1.out.2 hL2 (fun x hx => filt_has hx))
        obtain ⟨gx, gb, hg1, hg2⟩ : ∃ gx gb, (getR key s L).1 = gx ∧ (getR key s L).2 = gb := ⟨_, _, rfl, rfl⟩
        have HG12 := hid (⟨hg1, hg2⟩ : _ ∧ _)
        rw [hg1, hg2] at HGt
        clear hg1 hg2
        go_upto_region 16 with (go_at_call 10; (with_reducible refine (HGt.out).mono ?_); rintro r w4 ⟨Ag, ng, cg, Avg, nvg, cvg, rfl, hg1, hg2, hb4⟩; have HG4 := hid (⟨hg1, hg2, hb4⟩ : _ ∧ _ ∧ _); clear hg1 hg2 hb4)
        have hx19 := heap_alloc_new w4 (.cells #[.slice Ag ng cg, .int .i64 (eSeq gx), .bool (eGone gx), .int .i64 (eTil gx), .slice Avg nvg cvg] 29)
        have hBa := below_alloc' HG4.out.2.2 (.cells #[.slice Ag ng cg, .int .i64 (eSeq gx), .bool (eGone gx), .int .i64 (eTil gx), .slice Avg nvg cvg] 29)
        have hBb := below_alloc' (Below.refl w4.heap.size w4) (.cells #[.slice Ag ng cg, .int .i64 (eSeq gx), .bool (eGone gx), .int .i64 (eTil gx), .slice Avg nvg cvg] 29)
        have HGk := hid (⟨HG4.out.1.below hBb, HG4.out.2.1.below hBb⟩ : _ ∧ _)
        have HM4 := hid (HM3.out.below hBa)
        have HK4 := hid (HK3.out.below hBa)
        have HT4 := hid (HT3.out.below hBa)
        have HB4 := hid (below_then HB3.out hBa)
        clear hBa hBb HG4 HGt
        generalize w4.alloc (.cells #[.slice Ag ng cg, .int .i64 (eSeq gx), .bool (eGone gx), .int .i64 (eTil gx), .slice Avg nvg cvg] 29) = W4 at *
        generalize w4.heap.size = b19 at *
        have HX19 := hid hx19
        have HRg := hid (mem_get_any HM4.out HS1.out.1 Ar nr cr key s HK4.out)
        rw [HG12.out.1, HG12.out.2] at HRg
        clear hx19
        go_upto_region 17 with (go_at_call 11; (with_reducible refine (HRg.out).mono ?_); rintro r w5 ⟨kv5, vv5, rfl, ho5, ho6, hb5⟩; obtain ⟨Ah, ch, rfl, hg5, _⟩ := ho5.open_; obtain ⟨Avh, cvh, rfl, hg6, _⟩ := ho6.open_; have HG5 := hid (⟨hg5, hg6, hb5⟩ : _ ∧ _ ∧ _); clear ho5 ho6 hg5 hg6 hb5)
        have hx21 := heap_alloc_new w5 (.cells #[.slice Ah (eKey gx).length ch, .int .i64 (eSeq gx), .bool (eGone gx), .int .i64 (eTil gx), .slice Avh (eVal gx).length cvh] 29)
        have hBc := below_alloc' HG5.out.2.2 (.cells #[.slice Ah (eKey gx).length ch, .int .i64 (eSeq gx), .bool (eGone gx), .int .i64 (eTil gx), .slice Avh (eVal gx).length cvh] 29)
        have hBd := below_alloc' (Below.refl w5.heap.size w5) (.cells #[.slice Ah (eKey gx).length ch, .int .i64 (eSeq gx), .bool (eGone gx), .int .i64 (eTil gx), .slice Avh (eVal gx).length cvh] 29)
        have HHk := hid (⟨HG5.out.1.below hBd, HG5.out.2.1.below hBd⟩ : _ ∧ _)
        have HGk5 := hid (⟨HGk.out.1.below hBc, HGk.out.2.below hBc⟩ : _ ∧ _)
        have HX19' := hid (blk_below hBc HX19.out)
        have HM5 := hid (HM4.out.below hBc)
        have HT5 := hid (HT4.out.below hBc)
        have HB5 := hid (below_then HB4.out hBc)
        clear hBd hBc HG5 HRg HX19 HGk HM4 HT4 HB4 HK4 HK3 HM3 HT3 HB3 HM HRr HR2 HB2 HC2 HC3
        generalize w5.alloc (.cells #[.slice Ah (eKey gx).length ch, .int .i64 (eSeq gx), .bool (eGone gx), .int .i64 (eTil gx), .slice Avh (eVal gx).length cvh] 29) = W5 at *
        generalize w5.heap.size = b21 at *
        obtain ⟨g0, g1, g2, g3, g4⟩ := box5 HX19'.out
        obtain ⟨e0, e1, e2, e3, e4⟩ := box5 hx21
        clear hx21
        have HF5 := hid (HF.out.below HB5.out)
        have HTk5 := hid (HTk.out.below HB5.out)
        obtain ⟨LR, hLR⟩ : ∃ R, listR frm tk L = R := ⟨_, rfl⟩
        have HLR := hid hLR
        have hbb : (gb == gb) = true := by cases gb <;> rfl
        generalize (eKey gx).length = nkx at *
        generalize (eVal gx).length = nvx at *
        clear hLR
        go_wp2_with (first
          | (go_at_call 12; (with_reducible refine (sameentry_any Ag ng cg Avg nvg cvg Ah nkx ch Avh nvx cvh (eSeq gx) (eGone gx) (eTil gx) (eKey gx) (eVal gx) _ HGk5.out.1 HGk5.out.2 HHk.out.1 HHk.out.2).mono ?_); rintro r w6 ⟨rfl, hb6⟩; have HB6 := hid hb6; clear hb6)
          | (go_at_call 14; (with_reducible refine (tlist_any bt L (filtB L) Af nf cf frm At nt ct tk _ (HT5.out.below HB6.out) (HF5.out.below HB6.out) (HTk5.out.below HB6.out) HS1.out.1 HS1.out.2 hL2).mono ?_); rintro r w7 ⟨v7, rfl, ho7, hb7⟩; rw [HLR.out] at ho7; obtain ⟨A7, d7, rfl, _, hr7⟩ := ho7.len ho7.len_lt; have HR7 := hid hr7; have HB7 := hid (below_then HB6.out hb7); clear ho7 hr7 hb7)
          | (go_at_call 15; (with_reducible refine (mem_list_any (HM5.out.below HB7.out) HS1.out.1 HS1.out.2 hL3 Af nf cf frm At nt ct tk (HF5.out.below HB7.out) (HTk5.out.below HB7.out)).mono ?_); rintro r w8 ⟨v8, rfl, ho8, hb8⟩; rw [HLR.out] at ho8; obtain ⟨A8, d8, rfl, _, hr8⟩ := ho8.len ho8.len_lt; have HR8 := hid hr8; have HB8 := hid (below_then HB7.out hb8); have HR78 := hid (HR7.out.below hb8); clear ho8 hr8 hb8)
          | (go_at_call 13; (with_reducible refine (sameentries_any A7 d7 A8 d8 LR.length LR _ HR78.out HR8.out).mono ?_); rintro r w9 ⟨rfl, hb9⟩; have HB9 := hid (below_then HB8.out hb9); clear hb9)
          | (go_at_call 16; (with_reducible refine (tall_any bt L (filtB L) _ (HT5.out.below HB9.out) HS1.out.1 HS1.out.2 hL2).mono ?_); rintro r w10 ⟨v10, rfl, ho10, hb10⟩; obtain ⟨A10, d10, rfl, _, hr10⟩ := ho10.len ho10.len_lt; have HR10 := hid hr10; have HB10 := hid (below_then HB9.out hb10); clear ho10 hr10 hb10)
          | (go_at_call 17; (with_reducible refine (mem_all_any (HM5.out.below HB10.out) hL3).mono ?_); rintro r w11 ⟨v11, rfl, ho11, hb11⟩; obtain ⟨A11, d11, rfl, _, hr11⟩ := ho11.len ho11.len_lt; have HR11 := hid hr11; have HB11 := hid (below_then HB10.out hb11); have HR1011 := hid (HR10.out.below hb11); clear ho11 hr11 hb11)
          | (go_at_call 13; (with_reducible refine (sameentries_any A10 d10 A11 d11 L.length L _ HR1011.out HR11.out).mono ?_); rintro r w12 ⟨rfl, hb12⟩; have HB12 := hid (below_then HB11.out hb12); clear hb12)
          | (go_at_call 5; (with_reducible refine (tawake_any _).mono ?_); rintro r w13 ⟨rfl, hb13⟩; have HB13 := hid (below_then HB12.out hb13)))
        go_ret
        exact ⟨by first | rfl | simp, below_then HB5.out HB13.out⟩
end Go.Proofs.YtkkclkknpjapcaaDoor
