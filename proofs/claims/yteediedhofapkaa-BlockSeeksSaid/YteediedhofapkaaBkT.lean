/- Layer 11's laws: BlockSeeks. -/
import Derived.Test.YteediedhofapkaaBkS2
namespace Go.Proofs.Yteediedhofapkaa
open Go.RowKit
set_option linter.unusedVariables false
set_option linter.unusedSimpArgs false

set_option maxHeartbeats 8000000 in
set_option maxRecDepth 100000 in
theorem bkseek_nil (Ar : Option Addr) (nr cr : Nat) (s : Int) (w : World) :
    Calls Try.prog 12 #[.slice none 0 0, .slice Ar nr cr, .int .i64 s] w fun r w' => r = .returned (.tuple #[.agg #[.slice none 0 0, .int .i64 0, .bool false, .int .i64 0, .slice none 0 0], .bool false]) ∧ Below w.heap.size w w' := by
  have hB1 := below_alloc' (below_alloc' (below_alloc' (Below.refl w.heap.size w) (.cells #[.slice Ar nr cr] 23)) (.cells #[.int .i64 s] 2)) (.cells #[.slice none 0 0, .int .i64 0, .bool false, .int .i64 0, .slice none 0 0] 26)
  have hx3 := heap_alloc_new ((w.alloc (.cells #[.slice Ar nr cr] 23)).alloc (.cells #[.int .i64 s] 2)) (.cells #[.slice none 0 0, .int .i64 0, .bool false, .int .i64 0, .slice none 0 0] 26)
  have e2 : ((w.alloc (.cells #[.slice Ar nr cr] 23)).alloc (.cells #[.int .i64 s] 2)).heap.size = w.heap.size + 1 + 1 := by simp
  rw [e2] at hx3
  have HD : Hid (decF [] = none) := hid (decF_short (by simp))
  go_enter Try.func12, Try.ntmps12
  go_wp2_with (go_at_call 8; (with_reducible refine (decode_any none 0 0 [] _ (RB.nil _) (by omega) (by omega)).mono ?_); intro r w4 hd; unfold DecC at hd; rw [HD.out] at hd; obtain ⟨⟨e, he, rfl⟩, hb4⟩ := hd; have hzb : (e != 0) = true := (by simpa using he); have q5 := blk_below (below_then hb4 (below_alloc' (Below.refl _ _) (.cells #[.slice none 0 0] 22))) hx3; obtain ⟨z0, z1, z2, z3, z4⟩ := box5 q5; have f5 := fun i => frozen_of_row _ (w.heap.size + 1 + 1) i _ _ q5; have HB := hid (below_then hB1 (below_then hb4 (below_alloc' (Below.refl _ _) (.cells #[.slice none 0 0] 22)))))
  have hfin := set5 (.slice none 0 0) (.int .i64 0) (.bool false) (.int .i64 0) (.slice none 0 0) q5
  have hgf := grown_set5 (w4.alloc (.cells #[.slice none 0 0] 22)) (w.heap.size + 1 + 1) (.slice none 0 0) (.int .i64 0) (.bool false) (.int .i64 0) (.slice none 0 0)
  exact bodyPost_ret (results_box2 (fn := Try.f12) (p := 6) (u := 7) (ty := 26) rfl _ _ (w.heap.size + 1 + 1) 26 _ (0, 0) _ rfl hfin Try.underlying26 rfl entry5) rfl ⟨rfl, HB.out.grown hgf HB.out.size (fun k hk => by cases hk; omega)⟩
/-- What the law's loop holds. -/
def WJ (w1 w2 wr : World) (b : Nat) (L : List EntR) (key : List UInt8) (s : Int) (k : Nat) (hb : Bool) : Prop :=
  Below w2.heap.size w2 wr ∧ ((hb = false ∧ (∀ t, t < k → aheadK (elt noEnt L t) key s = true) ∧ wr.heap[b]? = some (.cells #[.slice none 0 0, .int .i64 0, .bool false, .int .i64 0, .slice none 0 0] 26 (0, 0))) ∨
   (hb = true ∧ ∃ q, q < k ∧ (∀ t, t < q → aheadK (elt noEnt L t) key s = true) ∧ aheadK (elt noEnt L q) key s = false ∧ ∃ Ak nk ck Av nv cv, wr.heap[b]? = some (.cells #[.slice Ak nk ck, .int .i64 (eSeq (elt noEnt L q)), .bool (eGone (elt noEnt L q)), .int .i64 (eTil (elt noEnt L q)), .slice Av nv cv] 26 (0, 0)) ∧ RB w1 Ak nk (eKey (elt noEnt L q)) ∧ RB w1 Av nv (eVal (elt noEnt L q))))
theorem WJ.zero {w1 w2 wr : World} {b : Nat} {L : List EntR} {key : List UInt8} {s : Int} {k : Nat} (h : WJ w1 w2 wr b L key s k false) : (∀ t, t < k → aheadK (elt noEnt L t) key s = true) ∧ wr.heap[b]? = some (.cells #[.slice none 0 0, .int .i64 0, .bool false, .int .i64 0, .slice none 0 0] 26 (0, 0)) := by
  rcases h.2 with ⟨_, h3, h4⟩ | ⟨h3, _⟩
  · exact ⟨h3, h4⟩
  · cases h3
theorem WJ.some_ {w1 w2 wr : World} {b : Nat} {L : List EntR} {key : List UInt8} {s : Int} {k : Nat} (h : WJ w1 w2 wr b L key s k true) : ∃ q, q < k ∧ (∀ t, t < q → aheadK (elt noEnt L t) key s = true) ∧ aheadK (elt noEnt L q) key s = false ∧ ∃ Ak nk ck Av nv cv, wr.heap[b]? = some (.cells #[.slice Ak nk ck, .int .i64 (eSeq (elt noEnt L q)), .bool (eGone (elt noEnt L q)), .int .i64 (eTil (elt noEnt L q)), .slice Av nv cv] 26 (0, 0)) ∧ RB w1 Ak nk (eKey (elt noEnt L q)) ∧ RB w1 Av nv (eVal (elt noEnt L q)) := by
  rcases h.2 with ⟨h3, _⟩ | ⟨_, h4⟩
  · cases h3
  · exact h4
theorem WJ.below {w1 w2 wr w' : World} {b : Nat} {L : List EntR} {key : List UInt8} {s : Int} {k : Nat} {hb : Bool} (h : WJ w1 w2 wr b L key s k hb) (hB : Below wr.heap.size wr w') : WJ w1 w2 w' b L key s k hb := by
  obtain ⟨h1, h2⟩ := h
  refine ⟨below_then h1 hB, ?_⟩
  rcases h2 with ⟨rfl, h3, h4⟩ | ⟨rfl, q, h3, h4, h5, Ak, nk, ck, Av, nv, cv, h6, h7⟩
  · exact .inl ⟨rfl, h3, blk_below hB h4⟩
  · exact .inr ⟨rfl, q, h3, h4, h5, Ak, nk, ck, Av, nv, cv, blk_below hB h6, h7⟩
theorem WJ.on {w1 w2 wr : World} {b : Nat} {L : List EntR} {key : List UInt8} {s : Int} {k : Nat} {hb : Bool} (h : WJ w1 w2 wr b L key s k hb) (hk : hb = true ∨ aheadK (elt noEnt L k) key s = true) : WJ w1 w2 wr b L key s (k + 1) hb := by
  obtain ⟨h1, h2⟩ := h
  refine ⟨h1, ?_⟩
  rcases h2 with ⟨rfl, h3, h4⟩ | ⟨rfl, q, h3, h4⟩
  · refine .inl ⟨rfl, fun t ht => ?_, h4⟩
    rcases Nat.lt_succ_iff_lt_or_eq.1 ht with h5 | h5
    · exact h3 t h5
    · rw [h5]
      rcases hk with h6 | h6
      · cases h6
      · exact h6
  · exact .inr ⟨rfl, q, by omega, h4⟩
set_option maxHeartbeats 32000000 in
set_option maxRecDepth 100000 in
theorem BlockSeeks_walk (A : Option Addr) (n c : Nat) (es : List EntR) (Ar : Option Addr) (nr cr : Nat) (key : List UInt8) (s : Int) (w : World) (h : REnts w A n es) (hc : n ≤ c) (hk : RB w Ar nr key) (hkc : nr ≤ cr) (hksz : nr ≤ 140737488351232) (hz0 : (Lit.int .i64 s).wf = true) :
    Calls Try.prog 5 #[.slice A n c, .slice Ar nr cr, .int .i64 s] w fun e w' => e = .returned (.bool true) ∧ Below w.heap.size w w' := by
  have H := hid h
  have HK := hid hk
  clear h hz0 hk
  go_enter Try.func5, Try.ntmps5
  go_upto_region 2 with (go_at_call 11; (with_reducible refine (sorted_any A n c es _ H.out).mono ?_); rintro r w1 ⟨A1, c1, L, rfl, hc1, hr1, hs1, hm1, hl1, hb1⟩; have HR1 := hid hr1; have HS1 := hid (⟨hs1, hm1⟩ : _ ∧ _); clear hr1 hs1 hm1)
  by_cases h0 : L.length = 0
  · have hz1 : ((L.length : Int) == 0) = true := by rw [beq_iff_eq]; omega
    have HH0 := hid h0
    clear h0 hl1
    go_wp2_with (first
      | (go_at_call 6; (with_reducible refine (encode_none A1 L.length c1 L _ HR1.out (.inl HH0.out)).mono ?_); rintro r w2 ⟨rfl, hb2⟩)
      | (go_at_call 12; (with_reducible refine (bkseek_nil Ar nr cr s _).mono ?_); rintro r w3 ⟨rfl, hb3⟩)
      | (go_at_call 10; (with_reducible refine (awake_any _).mono ?_); rintro r w9 ⟨rfl, hb9⟩))
    go_ret
    exact ⟨rfl, below_then hb1 (below_then hb2 (below_then (below_alloc' hb3 _) hb9))⟩
  · have HF : Hid (FitK L) := hid ⟨by omega, by omega, HS1.out.2, HS1.out.1⟩
    obtain ⟨hsz1, hsz2⟩ := enc_size HF.out hl1
    obtain ⟨K, hK⟩ : ∃ K, (encK L).length = K := ⟨_, rfl⟩
    rw [hK] at hsz1 hsz2
    have HKl := hid hK
    have hkz : ((L.length : Int) == 0) = false := by rw [beq_eq_false_iff_ne]; omega
    clear hK
    go_upto_region 6 with (go_at_call 6; (with_reducible refine (encode_fit A1 L.length c1 L _ HR1.out HF.out).mono ?_); rintro r w2 ⟨v2, rfl, ho2, hb2⟩; obtain ⟨A2, c2, rfl, hr2, hc2⟩ := ho2.openN K HKl.out; have HR2 := hid hr2; clear ho2 hr2; have hB2 := below_then hb1 hb2)
    go_upto_region 7 with fail
    have hx2 := heap_alloc_new w2 (.cells #[.slice none 0 0, .int .i64 0, .bool false, .int .i64 0, .slice none 0 0] 26)
    have HJ0 : Hid (WJ w1 w2 (w2.alloc (.cells #[.slice none 0 0, .int .i64 0, .bool false, .int .i64 0, .slice none 0 0] 26)) w2.heap.size L key s 0 false) := hid ⟨below_alloc' (Below.refl _ _) _, .inl ⟨rfl, fun t ht => absurd ht (by omega), hx2⟩⟩
    clear hx2
    generalize w2.alloc (.cells #[.slice none 0 0, .int .i64 0, .bool false, .int .i64 0, .slice none 0 0] 26) = W0 at *
    have hmax := HR1.out.2.1
    go_wp2
    go_loopw [13, 48] (fun v i wr => ∃ (k : Nat) (hb : Bool), k ≤ L.length ∧ i = .int .i64 k ∧ v = .bool hb ∧ WJ w1 w2 wr w2.heap.size L key s k hb) (fun v i wr => L.length - (intOf i).toNat)
    case atStart => exact ⟨0, false, Nat.zero_le _, rfl, rfl, HJ0.out⟩
    case round =>
      clear HJ0
      obtain ⟨k, hb, hkL, rfl, rfl, hJ⟩ := hrel
      have HJ := hid hJ
      have hBr := hJ.1
      have hB1r := below_then hb2 hBr
      have hBw := below_then hB2 hBr
      clear hJ
      by_cases hlt : k < L.length
      · obtain ⟨ad, rfl, hen⟩ := HR1.out.at_ hlt
        obtain ⟨Ak, nk, ck, Av, nv, cv, a0, a1, a2, a3, a4, a5, a6, a7, a8⟩ := hen
        have a0 := below_cell hB1r a0
        have a1 := below_cell hB1r a1
        have a2 := below_cell hB1r a2
        have a3 := below_cell hB1r a3
        have a4 := below_cell hB1r a4
        have HE := hid (⟨a5, a6⟩ : _ ∧ _)
        obtain ⟨x, hx⟩ : ∃ x, elt noEnt L k = x := ⟨_, rfl⟩
        have HX := hid hx
        rw [hx] at a1 a2 a3 HE
        obtain ⟨C, hC⟩ : ∃ C, cmpB (eKey x) key = C := ⟨_, rfl⟩
        have HC := hid hC
        have hz := cmpB_zero (eKey x) key
        rw [hC] at hz
        have HA : Hid (aheadK x key s = true ↔ (C < 0 ∨ (C = 0 ∧ s < eSeq x))) := by
          unfold Hid
          rw [aheadK_iff, hC, hz]
        have hba := below_alloc' (Below.refl wr.heap.size wr) (.cells #[.slice Ak nk ck, .int .i64 (eSeq x), .bool (eGone x), .int .i64 (eTil x), .slice Av nv cv] 26)
        have hbn := heap_alloc_new wr (.cells #[.slice Ak nk ck, .int .i64 (eSeq x), .bool (eGone x), .int .i64 (eTil x), .slice Av nv cv] 26)
        have HBa := hid hba
        have HBn := hid hbn
        have HJa := hid (HJ.out.below hba)
        clear hx hC hz a5 a6 hba hbn
        rcases (by omega : C < 0 ∨ C = 0 ∨ 0 < C) with hC0 | hC0 | hC0
        · have hd1 : decide ((0 : Int) < C) = false := decide_eq_false (by omega)
          have hd2 : (C == 0) = false := by rw [beq_eq_false_iff_ne]; omega
          have HF : Hid (aheadK (elt noEnt L k) key s = true) := hid (by rw [HX.out]; exact HA.out.2 (.inl hC0))
          clear hC0
          cases hb
          · skip
            go_wp2_with (go_at_call 13; (with_reducible refine (refcompare_any Ak nk ck (eKey x) Ar nr cr key _ (HE.out.1.below (below_then hB1r HBa.out)) (HK.out.below (below_then hBw HBa.out))).mono ?_); rintro r w4 ⟨rfl, hb4⟩; rw [HC.out]; have HB4 := hid hb4; obtain ⟨y0, y1, y2, y3, y4⟩ := box5 (blk_below hb4 HBn.out); clear hb4)
            go_roundw
            case rel => exact ⟨k + 1, _, by omega, by go_num, rfl, (HJa.out.below HB4.out).on (.inr HF.out)⟩
            case measure => simp [intOf]; omega
          · skip
            go_wp2_with (go_at_call 13; (with_reducible refine (refcompare_any Ak nk ck (eKey x) Ar nr cr key _ (HE.out.1.below (below_then hB1r HBa.out)) (HK.out.below (below_then hBw HBa.out))).mono ?_); rintro r w4 ⟨rfl, hb4⟩; rw [HC.out]; have HB4 := hid hb4; obtain ⟨y0, y1, y2, y3, y4⟩ := box5 (blk_below hb4 HBn.out); clear hb4)
            go_roundw
            case rel => exact ⟨k + 1, _, by omega, by go_num, rfl, (HJa.out.below HB4.out).on (.inr HF.out)⟩
            case measure => simp [intOf]; omega
        · subst hC0
          by_cases hs : eSeq x ≤ s
          · have hd1 : decide (eSeq x ≤ s) = true := decide_eq_true hs
            have HF : Hid (aheadK x key s = false) := hid (by
              cases hq : aheadK x key s
              · rfl
              · have := HA.out.1 hq; omega)
            cases hb
            · skip
              have HN : Hid (aheadK (elt noEnt L k) key s = false) := hid (by rw [HX.out]; exact HF.out)
              go_wp2_with (go_at_call 13; (with_reducible refine (refcompare_any Ak nk ck (eKey x) Ar nr cr key _ (HE.out.1.below (below_then hB1r HBa.out)) (HK.out.below (below_then hBw HBa.out))).mono ?_); rintro r w4 ⟨rfl, hb4⟩; rw [HC.out]; have HB4 := hid hb4; obtain ⟨y0, y1, y2, y3, y4⟩ := box5 (blk_below hb4 HBn.out); clear hb4; have hz5 := (HJa.out.below HB4.out).zero.2; obtain ⟨z0, z1, z2, z3, z4⟩ := box5 hz5; have f5 := fun i => frozen_of_row _ w2.heap.size i _ _ hz5; have HZ := hid hz5; clear hz5)
              have hfin := set5 (.slice Ak nk ck) (.int .i64 (eSeq x)) (.bool (eGone x)) (.int .i64 (eTil x)) (.slice Av nv cv) HZ.out
              have hgf := grown_set5 w4 w2.heap.size (.slice Ak nk ck) (.int .i64 (eSeq x)) (.bool (eGone x)) (.int .i64 (eTil x)) (.slice Av nv cv)
              have hJc := HJa.out.below HB4.out
              have HN2 : Hid (WJ w1 w2 (((((w4.setCell ⟨w2.heap.size, 0, none⟩ (.slice Ak nk ck)).setCell ⟨w2.heap.size, 1, none⟩ (.int .i64 (eSeq x))).setCell ⟨w2.heap.size, 2, none⟩ (.bool (eGone x))).setCell ⟨w2.heap.size, 3, none⟩ (.int .i64 (eTil x))).setCell ⟨w2.heap.size, 4, none⟩ (.slice Av nv cv)) w2.heap.size L key s (k + 1) true) := hid ⟨hJc.1.grown hgf hJc.1.size (fun k hk => by cases hk; exact Nat.le_refl _), .inr ⟨rfl, k, by omega, hJc.zero.1, HN.out, Ak, nk, ck, Av, nv, cv, by rw [HX.out]; exact hfin, by rw [HX.out]; exact HE.out.1, by rw [HX.out]; exact HE.out.2⟩⟩
              clear hfin hgf hJc
              go_roundw
              case rel => exact ⟨k + 1, true, by omega, by go_num, rfl, HN2.out⟩
              case measure => simp [intOf]; omega
            · skip
              go_wp2_with (go_at_call 13; (with_reducible refine (refcompare_any Ak nk ck (eKey x) Ar nr cr key _ (HE.out.1.below (below_then hB1r HBa.out)) (HK.out.below (below_then hBw HBa.out))).mono ?_); rintro r w4 ⟨rfl, hb4⟩; rw [HC.out]; have HB4 := hid hb4; obtain ⟨y0, y1, y2, y3, y4⟩ := box5 (blk_below hb4 HBn.out); clear hb4)
              go_roundw
              case rel => exact ⟨k + 1, _, by omega, by go_num, rfl, (HJa.out.below HB4.out).on (.inl rfl)⟩
              case measure => simp [intOf]; omega
          · have hd1 : decide (eSeq x ≤ s) = false := decide_eq_false hs
            have HF : Hid (aheadK (elt noEnt L k) key s = true) := hid (by rw [HX.out]; exact HA.out.2 (.inr ⟨rfl, by omega⟩))
            clear hs
            cases hb
            · skip
              go_wp2_with (go_at_call 13; (with_reducible refine (refcompare_any Ak nk ck (eKey x) Ar nr cr key _ (HE.out.1.below (below_then hB1r HBa.out)) (HK.out.below (below_then hBw HBa.out))).mono ?_); rintro r w4 ⟨rfl, hb4⟩; rw [HC.out]; have HB4 := hid hb4; obtain ⟨y0, y1, y2, y3, y4⟩ := box5 (blk_below hb4 HBn.out); clear hb4)
              go_roundw
              case rel => exact ⟨k + 1, _, by omega, by go_num, rfl, (HJa.out.below HB4.out).on (.inr HF.out)⟩
              case measure => simp [intOf]; omega
            · skip
              go_wp2_with (go_at_call 13; (with_reducible refine (refcompare_any Ak nk ck (eKey x) Ar nr cr key _ (HE.out.1.below (below_then hB1r HBa.out)) (HK.out.below (below_then hBw HBa.out))).mono ?_); rintro r w4 ⟨rfl, hb4⟩; rw [HC.out]; have HB4 := hid hb4; obtain ⟨y0, y1, y2, y3, y4⟩ := box5 (blk_below hb4 HBn.out); clear hb4)
              go_roundw
              case rel => exact ⟨k + 1, _, by omega, by go_num, rfl, (HJa.out.below HB4.out).on (.inr HF.out)⟩
              case measure => simp [intOf]; omega
        · have hd1 : decide ((0 : Int) < C) = true := decide_eq_true hC0
          have HF : Hid (aheadK x key s = false) := hid (by
            cases hq : aheadK x key s
            · rfl
            · have := HA.out.1 hq; omega)
          clear hC0
          cases hb
          · skip
            have HN : Hid (aheadK (elt noEnt L k) key s = false) := hid (by rw [HX.out]; exact HF.out)
            go_wp2_with (go_at_call 13; (with_reducible refine (refcompare_any Ak nk ck (eKey x) Ar nr cr key _ (HE.out.1.below (below_then hB1r HBa.out)) (HK.out.below (below_then hBw HBa.out))).mono ?_); rintro r w4 ⟨rfl, hb4⟩; rw [HC.out]; have HB4 := hid hb4; obtain ⟨y0, y1, y2, y3, y4⟩ := box5 (blk_below hb4 HBn.out); clear hb4; have hz5 := (HJa.out.below HB4.out).zero.2; obtain ⟨z0, z1, z2, z3, z4⟩ := box5 hz5; have f5 := fun i => frozen_of_row _ w2.heap.size i _ _ hz5; have HZ := hid hz5; clear hz5)
            have hfin := set5 (.slice Ak nk ck) (.int .i64 (eSeq x)) (.bool (eGone x)) (.int .i64 (eTil x)) (.slice Av nv cv) HZ.out
            have hgf := grown_set5 w4 w2.heap.size (.slice Ak nk ck) (.int .i64 (eSeq x)) (.bool (eGone x)) (.int .i64 (eTil x)) (.slice Av nv cv)
            have hJc := HJa.out.below HB4.out
            have HN2 : Hid (WJ w1 w2 (((((w4.setCell ⟨w2.heap.size, 0, none⟩ (.slice Ak nk ck)).setCell ⟨w2.heap.size, 1, none⟩ (.int .i64 (eSeq x))).setCell ⟨w2.heap.size, 2, none⟩ (.bool (eGone x))).setCell ⟨w2.heap.size, 3, none⟩ (.int .i64 (eTil x))).setCell ⟨w2.heap.size, 4, none⟩ (.slice Av nv cv)) w2.heap.size L key s (k + 1) true) := hid ⟨hJc.1.grown hgf hJc.1.size (fun k hk => by cases hk; exact Nat.le_refl _), .inr ⟨rfl, k, by omega, hJc.zero.1, HN.out, Ak, nk, ck, Av, nv, cv, by rw [HX.out]; exact hfin, by rw [HX.out]; exact HE.out.1, by rw [HX.out]; exact HE.out.2⟩⟩
            clear hfin hgf hJc
            go_roundw
            case rel => exact ⟨k + 1, true, by omega, by go_num, rfl, HN2.out⟩
            case measure => simp [intOf]; omega
          · skip
            go_wp2_with (go_at_call 13; (with_reducible refine (refcompare_any Ak nk ck (eKey x) Ar nr cr key _ (HE.out.1.below (below_then hB1r HBa.out)) (HK.out.below (below_then hBw HBa.out))).mono ?_); rintro r w4 ⟨rfl, hb4⟩; rw [HC.out]; have HB4 := hid hb4; obtain ⟨y0, y1, y2, y3, y4⟩ := box5 (blk_below hb4 HBn.out); clear hb4)
            go_roundw
            case rel => exact ⟨k + 1, _, by omega, by go_num, rfl, (HJa.out.below HB4.out).on (.inl rfl)⟩
            case measure => simp [intOf]; omega
      · obtain rfl : k = L.length := by omega
        have HSk := hid (bkseek_any A2 K c2 L Ar nr cr key s wr (HR2.out.below hBr) hc2 (by omega) HF.out (HK.out.below hBw))
        cases hb
        · obtain ⟨hall, hzb⟩ := HJ.out.zero
          have HAll := hid hall
          have HZb := hid hzb
          clear hall hzb
          go_upto_region 15 with (go_at_call 12; refine (HSk.out).mono ?_; rintro r w5 ⟨m, hP, hb5, hres⟩; have hm := hP.unique (Nat.le_refl _) HAll.out (fun h => by omega); rcases hres with ⟨h1, _⟩ | ⟨_, rfl⟩; exact absurd h1 (by omega))
          obtain ⟨g0, g1, g2, g3, g4⟩ := box5 (blk_below (below_alloc' hb5 (.cells #[.slice none 0 0, .int .i64 0, .bool false, .int .i64 0, .slice none 0 0] 26)) HZb.out)
          obtain ⟨y0, y1, y2, y3, y4⟩ := box5 (heap_alloc_new w5 (.cells #[.slice none 0 0, .int .i64 0, .bool false, .int .i64 0, .slice none 0 0] 26))
          have hB5 := below_alloc' (below_then hBw hb5) (.cells #[.slice none 0 0, .int .i64 0, .bool false, .int .i64 0, .slice none 0 0] 26)
          go_wp2_with (first
            | (go_at_call 14; (with_reducible refine (sameentry_any none 0 0 none 0 0 none 0 0 none 0 0 0 false 0 [] [] _ (RB.nil _) (RB.nil _) (RB.nil _) (RB.nil _)).mono ?_); rintro r w8 ⟨rfl, hb8⟩)
            | (go_at_call 10; (with_reducible refine (awake_any _).mono ?_); rintro r w9 ⟨rfl, hb9⟩))
          go_ret
          exact ⟨rfl, below_then hB5 (below_then hb8 hb9)⟩
        · obtain ⟨q, hq, hq1, hq2, Ak, nk, ck, Av, nv, cv, hbx, hk1, hv1⟩ := HJ.out.some_
          have HQ := hid (⟨hq1, hq2, hk1, hv1⟩ : _ ∧ _ ∧ _ ∧ _)
          have HBx := hid hbx
          clear hq1 hq2 hk1 hv1 hbx
          go_upto_region 15 with (go_at_call 12; refine (HSk.out).mono ?_; rintro r w5 ⟨m, hP, hb5, hres⟩; have hm := hP.unique (Nat.le_of_lt hq) HQ.out.1 (fun _ => HQ.out.2.1); subst hm; rcases hres with ⟨_, Bk, mk, dk, Bv, mv, dv, rfl, hk5, hv5⟩ | ⟨h1, _⟩; rotate_left; exact absurd h1 (by omega))
          obtain ⟨g0, g1, g2, g3, g4⟩ := box5 (blk_below (below_alloc' hb5 (.cells #[.slice Bk mk dk, .int .i64 (eSeq (elt noEnt L m)), .bool (eGone (elt noEnt L m)), .int .i64 (eTil (elt noEnt L m)), .slice Bv mv dv] 26)) HBx.out)
          obtain ⟨y0, y1, y2, y3, y4⟩ := box5 (heap_alloc_new w5 (.cells #[.slice Bk mk dk, .int .i64 (eSeq (elt noEnt L m)), .bool (eGone (elt noEnt L m)), .int .i64 (eTil (elt noEnt L m)), .slice Bv mv dv] 26))
          have hB5 := below_alloc' (below_then hBw hb5) (.cells #[.slice Bk mk dk, .int .i64 (eSeq (elt noEnt L m)), .bool (eGone (elt noEnt L m)), .int .i64 (eTil (elt noEnt L m)), .slice Bv mv dv] 26)
          have hB51 := below_alloc' (below_then hB1r hb5) (.cells #[.slice Bk mk dk, .int .i64 (eSeq (elt noEnt L m)), .bool (eGone (elt noEnt L m)), .int .i64 (eTil (elt noEnt L m)), .slice Bv mv dv] 26)
          have HR5 := hid (⟨hk5.alloc (.cells #[.slice Bk mk dk, .int .i64 (eSeq (elt noEnt L m)), .bool (eGone (elt noEnt L m)), .int .i64 (eTil (elt noEnt L m)), .slice Bv mv dv] 26), hv5.alloc (.cells #[.slice Bk mk dk, .int .i64 (eSeq (elt noEnt L m)), .bool (eGone (elt noEnt L m)), .int .i64 (eTil (elt noEnt L m)), .slice Bv mv dv] 26), HQ.out.2.2.1.below hB51, HQ.out.2.2.2.below hB51⟩ : _ ∧ _ ∧ _ ∧ _)
          clear hk5 hv5
          go_wp2_with (first
            | (go_at_call 14; (with_reducible refine (sameentry_any Bk mk dk Bv mv dv Ak nk ck Av nv cv _ _ _ (eKey (elt noEnt L m)) (eVal (elt noEnt L m)) _ HR5.out.1 HR5.out.2.1 HR5.out.2.2.1 HR5.out.2.2.2).mono ?_); rintro r w8 ⟨rfl, hb8⟩)
            | (go_at_call 10; (with_reducible refine (awake_any _).mono ?_); rintro r w9 ⟨rfl, hb9⟩))
          go_ret
          exact ⟨rfl, below_then hB5 (below_then hb8 hb9)⟩
end Go.Proofs.Yteediedhofapkaa
