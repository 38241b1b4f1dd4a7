/- Layer 14: Decode: the walk. -/
import Derived.Test.YthiolcccgiibhaaEdDo
import Derived.Deep.RegionLaw
namespace Go.Proofs.Ythiolcccgiibhaa
open Go.RowKit
set_option linter.unusedVariables false
set_option linter.unusedSimpArgs false

/-- What Decode tells. -/
def DecC (w' : World) (xs : List UInt8) (v : Value) : Prop :=
  (∃ a b c A n k B m q, v = .agg #[.int .i64 a, .int .i64 b, .int .i64 c, .slice A n k, .slice B m q]) ∧
  ((decE xs).2.2.2.2.2 = 0 → ∃ A k B q, v = .agg #[.int .i64 ((decE xs).1 : Int), .int .i64 ((decE xs).2.1 : Int), .int .i64 ((decE xs).2.2.1 : Int), .slice A (decE xs).2.2.2.1.length k, .slice B (decE xs).2.2.2.2.1.length q] ∧
    RTabs w' A (decE xs).2.2.2.1.length (decE xs).2.2.2.1 ∧ (decE xs).2.2.2.1.length ≤ k ∧ RN .i64 w' B (decE xs).2.2.2.2.1.length (decE xs).2.2.2.2.1 ∧ (decE xs).2.2.2.2.1.length ≤ q)
theorem dec_down {f : Nat} (h0 : 0 < f) (h : f ≤ 200) : wrap64 ((f : Int) - 1) = ((f - 1 : Nat) : Int) := by unfold wrap64; omega
set_option maxHeartbeats 32000000 in
set_option maxRecDepth 100000 in
theorem decode_any (A : Option Addr) (n c : Nat) (xs : List UInt8) (w : World) (h : RB w A n xs) (hc : n ≤ c) (hsz : n ≤ 140737488351232) :
    Calls Try.prog 15 #[.slice A n c] w fun e w' => ∃ v, e = .returned (.tuple #[v, .int .i64 ((decE xs).2.2.2.2.2 : Int)]) ∧ DecC w' xs v ∧ Below w.heap.size w w' := by
  have e0 : (w.alloc (.cells #[.int .i64 0, .int .i64 0, .int .i64 0, .slice none 0 0, .slice none 0 0] 30)).heap.size = w.heap.size + 1 := by simp
  have hR0 : Rd ((w.alloc (.cells #[.int .i64 0, .int .i64 0, .int .i64 0, .slice none 0 0, .slice none 0 0] 30)).alloc (.cells #[.slice A n c, .int .i64 0] 50)) (w.heap.size + 1) A n c xs 0 := by
    refine ⟨?_, (h.alloc _).alloc _, hc, hsz⟩
    rw [← e0]
    exact heap_alloc_new _ _
  have HR0 := hid hR0
  clear hR0
  obtain ⟨g1, x1, r1, hS1⟩ : ∃ s x1 r1, numR 4611686018427387904 xs 0 = (s, x1, r1) := ⟨_, _, _, rfl⟩
  obtain ⟨g2, x2, r2, hS2⟩ : ∃ s x2 r2, numR 4611686018427387904 x1 r1 = (s, x2, r2) := ⟨_, _, _, rfl⟩
  obtain ⟨g3, x3, r3, hS3⟩ : ∃ s x3 r3, numR 4611686018427387904 x2 r2 = (s, x3, r3) := ⟨_, _, _, rfl⟩
  obtain ⟨N, x4, r4, hN⟩ : ∃ N x4 r4, numR 200 x3 r3 = (N, x4, r4) := ⟨_, _, _, rfl⟩
  have b1 := numR_er (most := 4611686018427387904) (xs := xs) (show 0 ≤ 100 by decide)
  rw [hS1] at b1
  obtain ⟨br1, bs1⟩ : r1 ≤ 100 ∧ g1 ≤ 4611686018427387904 := b1
  have b2 := numR_er (most := 4611686018427387904) (xs := x1) br1
  rw [hS2] at b2
  obtain ⟨br2, bs2⟩ : r2 ≤ 100 ∧ g2 ≤ 4611686018427387904 := b2
  have b3 := numR_er (most := 4611686018427387904) (xs := x2) br2
  rw [hS3] at b3
  obtain ⟨br3, bs3⟩ : r3 ≤ 100 ∧ g3 ≤ 4611686018427387904 := b3
  have b4 := numR_er (most := 200) (xs := x3) br3
  rw [hN] at b4
  obtain ⟨br4, bN⟩ : r4 ≤ 100 ∧ N ≤ 200 := b4
  have HHD : Hid (headR xs = (g1, g2, g3, x3, r3)) := by unfold Hid headR; simp only [hS1, hS2, hS3]
  have HPT : Hid (partT x3 r3 = loopT N x4 r4 []) := by unfold Hid partT; rw [hN]
  have HS1 := hid hS1
  have HS2 := hid hS2
  have HS3 := hid hS3
  have HN := hid hN
  clear hS1 hS2 hS3 hN
  go_enter Try.func15, Try.ntmps15
  go_wp2_with (first
    | (go_at_call 24; (with_reducible refine (number_lit (w.heap.size + 1) A n c xs 0 4611686018427387904 4611686018427387904 rfl _ HR0.out (by omega) (by omega)).mono ?_); rintro e w1 ⟨rfl, ⟨A1, n1, c1, hR1, hr1⟩, hg1⟩; rw [HS1.out] at hR1 hr1 ⊢; simp only at hR1 hr1 ⊢)
    | (go_at_call 24; (with_reducible refine (number_lit (w.heap.size + 1) A1 n1 c1 x1 r1 4611686018427387904 4611686018427387904 rfl _ hR1 br1 (by omega)).mono ?_); rintro e w2 ⟨rfl, ⟨A2, n2, c2, hR2, hr2⟩, hg2⟩; rw [HS2.out] at hR2 hr2 ⊢; simp only at hR2 hr2 ⊢)
    | (go_at_call 24; (with_reducible refine (number_lit (w.heap.size + 1) A2 n2 c2 x2 r2 4611686018427387904 4611686018427387904 rfl _ hR2 br2 (by omega)).mono ?_); rintro e w3 ⟨rfl, ⟨A3, n3, c3, hR3, hr3⟩, hg3⟩; rw [HS3.out] at hR3 hr3 ⊢; simp only at hR3 hr3 ⊢; have hR3b : Rd (w3.alloc (.cells #[.int .i64 (g1 : Int), .int .i64 (g2 : Int), .int .i64 (g3 : Int), .slice none 0 0, .slice none 0 0] 30)) (w.heap.size + 1) A3 n3 c3 x3 r3 := ⟨blk_below (below_alloc' (Below.refl _ _) _) hR3.1, hR3.2.1.alloc _, hR3.2.2⟩)
    | (go_at_call 24; (with_reducible refine (number_lit (w.heap.size + 1) A3 n3 c3 x3 r3 200 200 rfl _ hR3b br3 (by omega)).mono ?_); rintro e w4 ⟨rfl, ⟨A4, n4, c4, hR4, hr4⟩, hg4⟩; rw [HN.out] at hR4 hr4 ⊢; simp only at hR4 hr4 ⊢))
  have hlt3 : w.heap.size + 1 < w3.heap.size := blk_lt hR3.1
  have hzz : ((w.alloc (.cells #[.int .i64 0, .int .i64 0, .int .i64 0, .slice none 0 0, .slice none 0 0] 30)).alloc (.cells #[.slice A n c, .int .i64 0] 50)).heap[w.heap.size]? = some (.cells #[.int .i64 0, .int .i64 0, .int .i64 0, .slice none 0 0, .slice none 0 0] 30 (0, 0)) := blk_below (below_alloc' (Below.refl _ _) _) (heap_alloc_new w _)
  have ne1 : ∀ q, (some (w.heap.size + 1) : Option Nat) ≠ some q ∨ q = w.heap.size + 1 := fun q => by by_cases e : q = w.heap.size + 1; exact .inr e; exact .inl (fun x => e (Option.some.inj x).symm)
  have nz : (some (w.heap.size + 1) : Option Nat) ≠ some w.heap.size := by intro e; have := Option.some.inj e; omega
  have hg123 := grown_trans (grown_trans hg1 hg2) hg3
  have hz3 := blk_grown' hg123 hzz nz
  have hB3 : Below w.heap.size w w3 := (below_alloc' (below_alloc' (Below.refl _ _) _) _).grown hg123 (below_alloc' (below_alloc' (Below.refl _ _) _) _).size (fun k hk => by cases hk; omega)
  have hB3b := below_alloc' hB3 (.cells #[.int .i64 (g1 : Int), .int .i64 (g2 : Int), .int .i64 (g3 : Int), .slice none 0 0, .slice none 0 0] 30)
  have hB4 : Below w.heap.size w w4 := hB3b.grown hg4 hB3b.size (fun k hk => by cases hk; omega)
  have hD : DecL w (w.heap.size + 1) w3.heap.size g1 g2 g3 [] [] x4 r4 w4 := by
    refine ⟨A4, n4, c4, none, 0, [], none, 0, hR4, hr4 _ (hr3 _ (hr2 _ (hr1 _ h))), blk_grown' hg4 (heap_alloc_new w3 _) (by intro e; have := Option.some.inj e; omega), ⟨OV.nil _ _ _ _, RelV.nil⟩, ⟨OV.nil _ _ _ _, fun j h => absurd h (by simp)⟩, ?_, hB4, by omega, by omega⟩
    exact blk_grown' hg4 (blk_below (below_alloc' (Below.refl _ _) _) hz3) nz
  clear hR1 hR2 hR3 hR3b hR4 hg1 hg2 hg3 hg4 hzz hz3 hB3 hB3b hB4 HR0 e0 h hr1 hr2 hr3 hr4 hg123 ne1
  go_loopw [6] (fun i wr => ∃ (f : Nat) (acc : List TabR) (ys : List UInt8) (er : Nat), i = .int .i64 (f : Int) ∧ acc.length + f ≤ 200 ∧ er ≤ 100 ∧ loopT f ys er acc = loopT N x4 r4 [] ∧ DecL w (w.heap.size + 1) w3.heap.size g1 g2 g3 acc [] ys er wr) (fun i wr => (intOf i).toNat)
  case atStart => exact ⟨N, [], x4, r4, rfl, by simpa using bN, br4, rfl, hD⟩
  case round =>
    obtain ⟨f, acc, ys, er, rfl, hf, her, hloop, Ab, nb, cb, Ar, cr, V, Az, cz, hP⟩ := hrel
    have hR := hP.rd
    have hlV : V.length = acc.length := hP.rel.1
    have hq0 := box_at hR.1 0 (.slice Ab nb cb) rfl
    have hq1 := box_at hR.1 1 (.int .i64 (er : Int)) rfl
    have HL := hid hloop
    clear hloop
    by_cases hgo : 0 < f ∧ er = 0
    · obtain ⟨hlt, rfl⟩ := hgo
      have hlti : (0 : Int) < (f : Int) := by omega
      have hdn := dec_down hlt (by omega)
      obtain ⟨n1, y1, f1, h1⟩ : ∃ a y e, numR 1099511627776 ys 0 = (a, y, e) := ⟨_, _, _, rfl⟩
      obtain ⟨n2, y2, f2, h2⟩ : ∃ a y e, numR 3 y1 f1 = (a, y, e) := ⟨_, _, _, rfl⟩
      obtain ⟨n3, y3, f3, h3⟩ : ∃ a y e, numR 4194304 y2 f2 = (a, y, e) := ⟨_, _, _, rfl⟩
      obtain ⟨K, y4, f4, h4⟩ : ∃ a y e, bytesR 512 y3 f3 = (a, y, e) := ⟨_, _, _, rfl⟩
      obtain ⟨M, y5, f5, h5⟩ : ∃ a y e, bytesR 512 y4 f4 = (a, y, e) := ⟨_, _, _, rfl⟩
      have b1 := numR_er (most := 1099511627776) (xs := ys) her
      rw [h1] at b1
      obtain ⟨bf1, bn1⟩ : f1 ≤ 100 ∧ n1 ≤ 1099511627776 := b1
      have b2 := numR_er (most := 3) (xs := y1) bf1
      rw [h2] at b2
      obtain ⟨bf2, bn2⟩ : f2 ≤ 100 ∧ n2 ≤ 3 := b2
      have b3 := numR_er (most := 4194304) (xs := y2) bf2
      rw [h3] at b3
      obtain ⟨bf3, bn3⟩ : f3 ≤ 100 ∧ n3 ≤ 4194304 := b3
      have bf4 := bytesR_er (most := 512) (xs := y3) bf3
      rw [h4] at bf4
      simp only at bf4
      have bf5 := bytesR_er (most := 512) (xs := y4) bf4
      rw [h5] at bf5
      simp only at bf5
      have H1 := hid h1
      have H2 := hid h2
      have H3 := hid h3
      have H4 := hid h4
      have H5 := hid h5
      have HX : Hid (loopT (f - 1) y5 f5 (acc ++ [mkTab n1 n2 n3 K M]) = loopT N x4 r4 []) := by
        unfold Hid
        rw [← HL.out, show f = (f - 1) + 1 by omega, loopT, if_neg (by omega)]
        unfold tab1
        simp only [h1, h2, h3, h4, h5]
        rfl
      have hw1 : (Lit.int .i64 (n1 : Int)).wf = true := wf_of_i64 (by omega) (by omega)
      have hw2 : (Lit.int .i64 (n2 : Int)).wf = true := wf_of_i64 (by omega) (by omega)
      have hw3 : (Lit.int .i64 (n3 : Int)).wf = true := wf_of_i64 (by omega) (by omega)
      clear h1 h2 h3 h4 h5
      go_wp2_with (first
        | (go_at_call 24; (with_reducible refine (number_lit (w.heap.size + 1) Ab nb cb ys 0 1099511627776 1099511627776 rfl _ hR her (by omega)).mono ?_); rintro e u1 ⟨rfl, hC1⟩; rw [H1.out] at hC1 ⊢; simp only at hC1 ⊢; obtain ⟨A1, m1, c1, hP1⟩ := hP.read hC1; have hR1 := hP1.rd)
        | (go_at_call 24; (with_reducible refine (number_lit (w.heap.size + 1) A1 m1 c1 y1 f1 3 3 rfl _ hR1 bf1 (by omega)).mono ?_); rintro e u2 ⟨rfl, hC2⟩; rw [H2.out] at hC2 ⊢; simp only at hC2 ⊢; obtain ⟨A2, m2, c2, hP2⟩ := hP1.read hC2; have hR2 := hP2.rd)
        | (go_at_call 24; (with_reducible refine (number_lit (w.heap.size + 1) A2 m2 c2 y2 f2 4194304 4194304 rfl _ hR2 bf2 (by omega)).mono ?_); rintro e u3 ⟨rfl, hC3⟩; rw [H3.out] at hC3 ⊢; simp only at hC3 ⊢; obtain ⟨A3, m3, c3, hP3⟩ := hP2.read hC3; have hO3 := DecO.start hP3 n1 n2 n3; have hR3 := hO3.1.rd)
        | (go_at_call 25; (with_reducible refine (key_any (w.heap.size + 1) A3 m3 c3 y3 f3 _ hR3 bf3).mono ?_); rintro e u4 ⟨v4, rfl, hown4, hC4⟩; rw [H4.out] at hown4 hC4; simp only at hown4 hC4; obtain ⟨A4, m4, c4, hO4⟩ := hO3.read hC4; have hR4 := hO4.1.rd; have hown4 := hown4.mono hO3.1.below.size)
        | (go_at_call 25; (with_reducible refine (key_any (w.heap.size + 1) A4 m4 c4 y4 f4 _ hR4 bf4).mono ?_); rintro e u5 ⟨v5, rfl, hown5, hC5⟩; rw [H5.out] at hown5 hC5; simp only at hown5 hC5; obtain ⟨A5, m5, c5, hO5⟩ := hO4.read hC5; have hown5 := hown5.mono hO4.1.below.size; have hown6 := hown4.other hC5.2 (.inr (hown4.ne_blk hR4.1 (by decide))); have hO6 := hO5.set (i := 3) (v := v4) (t' := mkTab n1 n2 n3 K []) (lv' := v4) (mv' := .slice none 0 0) rfl hown6 (OB.nil _ _); have hown7 := hown5.other (grown_set u5 u3.heap.size 3 v4) (.inr (hown5.ne_blk hO5.2.2.2.1 (by decide))); have hO7 := hO6.set (i := 4) (v := v5) (t' := mkTab n1 n2 n3 K M) (lv' := v4) (mv' := v5) rfl hO6.2.2.2.2.1 hown7; obtain ⟨B4, d4, rfl, _, _⟩ := hown4.open_; obtain ⟨B5, d5, rfl, _, _⟩ := hown5.open_; have hbo5 := hO5.2.2.2.1; have hq4 := box_at hbo5 3 (.slice none 0 0) rfl; have hf5 := fun i => frozen_of_row u5 u3.heap.size i _ _ hbo5; have hbo6 := hO6.2.2.2.1; have hq5 := box_at hbo6 4 (.slice none 0 0) rfl; have hf6 := fun i => frozen_of_row _ u3.heap.size i _ _ hbo6; have hbo7 := hO7.2.2.2.1; have hq6 := box_at hbo7 0 (.int .i64 (n1 : Int)) rfl; have hq7 := box_at hbo7 1 (.int .i64 (n2 : Int)) rfl; have hq8 := box_at hbo7 2 (.int .i64 (n3 : Int)) rfl; have hq9 := box_at hbo7 3 (.slice B4 K.length d4) rfl; have hq10 := box_at hbo7 4 (.slice B5 M.length d5) rfl; have hbx7 := hO7.1.out; have hq11 := box_at hbx7 3 (.slice Ar acc.length cr) rfl; have hv7 := hO7.1.row; have hBB7 := hO7.1.below)
        | (at_builtin; go_loud (refine wpV_append1 27 24 _ 5 72 Try.underlying27 tabinfo rfl (by omega) w ((u5.setCell ⟨u3.heap.size, 3, none⟩ (.slice B4 K.length d4)).setCell ⟨u3.heap.size, 4, none⟩ (.slice B5 M.length d5)) w.heap.size rfl (.tmp 46) (.tmp 48) rfl (.slice Ar acc.length cr) V rfl hv7 #[.int .i64 (n1 : Int), .int .i64 (n2 : Int), .int .i64 (n3 : Int), .slice B4 K.length d4, .slice B5 M.length d5] rfl (ones5 rfl rfl rfl rfl rfl) 1 _ (by simp) rfl (by simp only [maxLen]; omega) (by omega) hBB7 hBB7.size ?_); intro v8 u8 hv8 hB8 hgr _; obtain ⟨B, d8, rfl, hc8⟩ := hv8.openN (acc.length + 1) (by rw [List.length_append, hlV]; rfl); have hL8 := hO7.push hgr hv8 hw1 hw2 hw3; have hbx8 := blk_grown' hgr hbx7 (hv7.ne_blk hbx7 (by decide)); have hf8 := frozen_of_row u8 w3.heap.size 3 _ _ hbx8; have hq12 := box_at hbx8 3 (.slice Ar acc.length cr) rfl))
      go_roundw
      case rel => exact ⟨f - 1, acc ++ [mkTab n1 n2 n3 K M], y5, f5, by go_num, by simp; omega, bf5, HX.out, hL8⟩
      case measure => simp [intOf]; omega
    · have hdone : loopT f ys er acc = (acc, ys, er) := by
        by_cases h0 : 0 < f
        · exact loopT_err (fun e => hgo ⟨h0, e⟩) _ _ _
        · rw [show f = 0 by omega]; rfl
      have hLN := HL.out
      rw [hdone] at hLN
      have HPT2 : Hid (partT x3 r3 = (acc, ys, er)) := by unfold Hid; rw [HPT.out, ← hLN]
      obtain ⟨N2, y0, e0, hN2⟩ : ∃ a y e, numR 200 ys er = (a, y, e) := ⟨_, _, _, rfl⟩
      have b5 := numR_er (most := 200) (xs := ys) her
      rw [hN2] at b5
      obtain ⟨be0, bN2⟩ : e0 ≤ 100 ∧ N2 ≤ 200 := b5
      have HPZ : Hid (partZ ys er = loopZ N2 y0 e0 []) := by unfold Hid partZ; rw [hN2]
      have HN2 := hid hN2
      have hcase : (¬ (0 : Int) < (f : Int)) ∨ ((0 : Int) < (f : Int) ∧ ((er : Int) == 0) = false) := by
        by_cases h0 : 0 < f
        · have he : er ≠ 0 := fun e => hgo ⟨h0, e⟩
          exact .inr ⟨by omega, by rw [beq_eq_false_iff_ne]; omega⟩
        · exact .inl (by omega)
      have hacc : acc.length ≤ 200 := by omega
      clear hdone hLN HL hgo hN2 HPT hf
      rcases hcase with hA | ⟨hA, hA2⟩
      all_goals
        go_wp2_with (go_at_call 24; (with_reducible refine (number_lit (w.heap.size + 1) Ab nb cb ys er 200 200 rfl _ hR her (by omega)).mono ?_); rintro e u1 ⟨rfl, hC1⟩; rw [HN2.out] at hC1 ⊢; simp only at hC1 ⊢; obtain ⟨A1, m1, c1, hP1⟩ := hP.read hC1; have hL1 := hP1.l_)
        go_loopw [8] (fun i wr => ∃ (f : Nat) (zacc : List Int) (ys : List UInt8) (er : Nat), i = .int .i64 (f : Int) ∧ zacc.length + f ≤ 200 ∧ er ≤ 100 ∧ loopZ f ys er zacc = loopZ N2 y0 e0 [] ∧ DecL w (w.heap.size + 1) w3.heap.size g1 g2 g3 acc zacc ys er wr) (fun i wr => (intOf i).toNat)
        case atStart => exact ⟨N2, [], y0, e0, rfl, by simpa using bN2, be0, rfl, hL1⟩
        case round =>
          obtain ⟨k, zacc, zs, ez, rfl, hk, hez, hloop, Ab2, nb2, cb2, Ar2, cr2, V2, Az2, cz2, hP2⟩ := hrel
          have hR2 := hP2.rd
          have hlZ : (zcells zacc).length = zacc.length := zcells_len zacc
          have hq2 := box_at hR2.1 0 (.slice Ab2 nb2 cb2) rfl
          have hq3 := box_at hR2.1 1 (.int .i64 (ez : Int)) rfl
          have HL2 := hid hloop
          clear hloop
          by_cases hgo : 0 < k ∧ ez = 0
          · obtain ⟨hlt, rfl⟩ := hgo
            have hlti : (0 : Int) < (k : Int) := by omega
            have hdn := dec_down hlt (by omega)
            obtain ⟨z1, t1, f1, h1⟩ : ∃ a y e, numR 1099511627776 zs 0 = (a, y, e) := ⟨_, _, _, rfl⟩
            have b1 := numR_er (most := 1099511627776) (xs := zs) hez
            rw [h1] at b1
            obtain ⟨bf1, bz1⟩ : f1 ≤ 100 ∧ z1 ≤ 1099511627776 := b1
            have H1 := hid h1
            have HX : Hid (loopZ (k - 1) t1 f1 (zacc ++ [(z1 : Int)]) = loopZ N2 y0 e0 []) := by
              unfold Hid
              rw [← HL2.out, show k = (k - 1) + 1 by omega, loopZ, if_neg (by omega)]
              simp only [h1]
              rfl
            have hw1 : (Lit.int .i64 (z1 : Int)).wf = true := wf_of_i64 (by omega) (by omega)
            have hPd : DecP w wr.drew (w.heap.size + 1) w3.heap.size g1 g2 g3 acc zacc zs 0 Ab2 nb2 cb2 Ar2 cr2 V2 Az2 cz2 := hP2.more (below_drew (Below.refl _ _))
            have hRd := hPd.rd
            have hq4 := box_at hPd.out 4 (.slice Az2 zacc.length cz2) rfl
            clear h1
            go_wp2
            go_region_law (first
              | (go_simp; go_at_call 24; refine (number_lit (w.heap.size + 1) Ab2 nb2 cb2 zs 0 1099511627776 1099511627776 rfl wr.drew hRd hez (by omega)).mono ?_; rintro e q1 ⟨rfl, hC3⟩; rw [H1.out] at hC3 ⊢; simp only at hC3 ⊢; obtain ⟨A3, m3, c3, hP3⟩ := hPd.read hC3; have hz3 := hP3.zrow; have hBB3 := hP3.below; have hq5 := box_at hP3.out 4 (.slice Az2 zacc.length cz2) rfl; have hq6 := box_at (blk_below (below_alloc' (Below.refl _ _) (.cells #[.int .i64 (z1 : Int)] 2)) hP3.out) 4 (.slice Az2 zacc.length cz2) rfl)
              | (refine stepV_append1 28 2 _ 1 8 Try.underlying28 i64info rfl (by omega) q1 w.heap.size (by rfl) (.tmp 65) (.tmp 68) (by rfl) (.slice Az2 zacc.length cz2) (zcells zacc) (by rfl) hz3 #[.int .i64 (z1 : Int)] rfl (ones1 rfl) 1 _ (by rfl) (by rfl) (by rw [hlZ]; simp only [maxLen]; omega) (by omega) hBB3.size ?_; intro v4 q4 hv4 hg4; obtain ⟨B, d4, rfl, hc4⟩ := hv4.openN (zacc.length + 1) (by rw [List.length_append, hlZ]; rfl); have hL4 := hP3.pushZ hg4 hv4 hw1; have hbx4 := blk_grown' hg4 hP3.out (hz3.ne_blk hP3.out (by decide)); have hf4 := frozen_of_row q4 w3.heap.size 4 _ _ hbx4; have hq7 := box_at hbx4 4 (.slice Az2 zacc.length cz2) rfl))
            all_goals
              go_wp2
              go_roundw
              case rel => exact ⟨k - 1, zacc ++ [(z1 : Int)], t1, f1, by go_num, by simp; omega, bf1, HX.out, hL4⟩
              case measure => simp [intOf]; omega
          · have hdone2 : loopZ k zs ez zacc = (zacc, zs, ez) := by
              by_cases h0 : 0 < k
              · exact loopZ_err (fun e => hgo ⟨h0, e⟩) _ _ _
              · rw [show k = 0 by omega]; rfl
            have hLN2 := HL2.out
            rw [hdone2] at hLN2
            have HD : Hid (decE xs = (g1, g2, g3, acc, zacc, endE g1 g2 g3 acc zacc zs ez)) := by
              unfold Hid decE
              simp only [HHD.out, HPT2.out, HPZ.out, ← hLN2]
            have hnb : zs.length = nb2 := hP2.2.1.1
            have hzz := hP2.zero
            have zb0 := box_at hzz 0 (.int .i64 0) rfl
            have zb1 := box_at hzz 1 (.int .i64 0) rfl
            have zb2 := box_at hzz 2 (.int .i64 0) rfl
            have zb3 := box_at hzz 3 (.slice none 0 0) rfl
            have zb4 := box_at hzz 4 (.slice none 0 0) rfl
            have hfz := fun i => frozen_of_row wr w.heap.size i _ _ hzz
            have hacc2 : zacc.length ≤ 200 := by omega
            clear hdone2 hLN2 HL2
            by_cases he : ez = 0
            · subst he
              have hkN : ¬ (0 : Int) < (k : Int) := by omega
              clear hgo
              by_cases hy : nb2 = 0
              · have hy1 : ¬ (0 : Int) < (nb2 : Int) := by omega
                obtain ⟨o1, o2, o3, o4⟩ := hP2.ops (by omega) (by omega)
                have ob0 := box_at hP2.out 0 (.int .i64 (g1 : Int)) rfl
                have ob1 := box_at hP2.out 1 (.int .i64 (g2 : Int)) rfl
                have ob2 := box_at hP2.out 2 (.int .i64 (g3 : Int)) rfl
                have ob3 := box_at hP2.out 3 (.slice Ar2 acc.length cr2) rfl
                have ob4 := box_at hP2.out 4 (.slice Az2 zacc.length cz2) rfl
                cases hM : mayEd g1 g2 g3 acc zacc with
                | true =>
                  have HE : Hid (decE xs = (g1, g2, g3, acc, zacc, 0)) := by
                    unfold Hid
                    rw [HD.out]
                    unfold endE
                    rw [if_neg (by omega), if_neg (by rw [hM]; rintro (h | h); exact absurd h (by omega); cases h)]
                  have HM := hid hM
                  clear hM HD
                  go_wp2_with (first
                    | (go_at_call 13; (with_reducible refine (mayedit_any g1 g2 g3 Ar2 acc.length cr2 acc Az2 zacc.length cz2 zacc _ o1 o3).mono ?_); rintro e q1 ⟨rfl, hb9⟩; rw [HM.out]; have hP9 := hP2.more hb9; have hz9 := hP9.zero; have oc0 := box_at hP9.out 0 (.int .i64 (g1 : Int)) rfl; have oc1 := box_at hP9.out 1 (.int .i64 (g2 : Int)) rfl; have oc2 := box_at hP9.out 2 (.int .i64 (g3 : Int)) rfl; have oc3 := box_at hP9.out 3 (.slice Ar2 acc.length cr2) rfl; have oc4 := box_at hP9.out 4 (.slice Az2 zacc.length cz2) rfl; have zc0 := box_at hz9 0 (.int .i64 0) rfl; have zc1 := box_at hz9 1 (.int .i64 0) rfl; have zc2 := box_at hz9 2 (.int .i64 0) rfl; have zc3 := box_at hz9 3 (.slice none 0 0) rfl; have zc4 := box_at hz9 4 (.slice none 0 0) rfl; have hf9 := fun i => frozen_of_row q1 w.heap.size i _ _ hz9))
                  obtain ⟨c1, c2, c3⟩ := hP9.ans (.int .i64 (g1 : Int)) (.int .i64 (g2 : Int)) (.int .i64 (g3 : Int)) (.slice Ar2 acc.length cr2) (.slice Az2 zacc.length cz2)
                  (try simp only [Exit.inBlock, Exit.then])
                  refine bodyPost_ret (v := .tuple #[.agg #[.int .i64 (g1 : Int), .int .i64 (g2 : Int), .int .i64 (g3 : Int), .slice Ar2 acc.length cr2, .slice Az2 zacc.length cz2], .int .i64 0]) (results_row_tmp (P := Try.prog) (fn := Try.f15) (p := 2) (u := 3) (ty := 30) rfl _ _ w.heap.size 30 _ (0, 0) _ rfl c1 Try.underlying30 rfl edit5 _ rfl) rfl ⟨_, by rw [HE.out]; rfl, ⟨⟨_, _, _, _, _, _, _, _, _, rfl⟩, fun _ => ?_⟩, c2⟩
                  rw [HE.out]
                  exact ⟨Ar2, cr2, Az2, cz2, rfl, c3 (by omega) (by omega)⟩
                | false =>
                  have HE : Hid (decE xs = (g1, g2, g3, acc, zacc, 3)) := by
                    unfold Hid
                    rw [HD.out]
                    unfold endE
                    rw [if_neg (by omega), if_pos (.inr hM)]
                  have HM := hid hM
                  clear hM HD
                  go_wp2_with (first
                    | (go_at_call 13; (with_reducible refine (mayedit_any g1 g2 g3 Ar2 acc.length cr2 acc Az2 zacc.length cz2 zacc _ o1 o3).mono ?_); rintro e q1 ⟨rfl, hb9⟩; rw [HM.out]; have hP9 := hP2.more hb9; have hz9 := hP9.zero; have zc0 := box_at hz9 0 (.int .i64 0) rfl; have zc1 := box_at hz9 1 (.int .i64 0) rfl; have zc2 := box_at hz9 2 (.int .i64 0) rfl; have zc3 := box_at hz9 3 (.slice none 0 0) rfl; have zc4 := box_at hz9 4 (.slice none 0 0) rfl; have hf9 := fun i => frozen_of_row q1 w.heap.size i _ _ hz9))
                  obtain ⟨c1, c2, c3⟩ := hP9.ans (.int .i64 0) (.int .i64 0) (.int .i64 0) (.slice none 0 0) (.slice none 0 0)
                  (try simp only [Exit.inBlock, Exit.then])
                  refine bodyPost_ret (v := .tuple #[.agg #[.int .i64 0, .int .i64 0, .int .i64 0, .slice none 0 0, .slice none 0 0], .int .i64 3]) (results_row_tmp (P := Try.prog) (fn := Try.f15) (p := 2) (u := 3) (ty := 30) rfl _ _ w.heap.size 30 _ (0, 0) _ rfl c1 Try.underlying30 rfl edit5 _ rfl) rfl ⟨_, by rw [HE.out]; rfl, ⟨⟨_, _, _, _, _, _, _, _, _, rfl⟩, fun hx => ?_⟩, c2⟩
                  rw [HE.out] at hx
                  exact absurd (show (3 : Nat) = 0 from hx) (by decide)
              · have hy1 : (0 : Int) < (nb2 : Int) := by omega
                have HE : Hid (decE xs = (g1, g2, g3, acc, zacc, 3)) := by
                  unfold Hid
                  rw [HD.out]
                  unfold endE
                  rw [if_neg (by omega), if_pos (.inl (by omega))]
                clear HD
                go_wp2
                obtain ⟨a1, a2, _⟩ := hP2.ans (.int .i64 0) (.int .i64 0) (.int .i64 0) (.slice none 0 0) (.slice none 0 0)
                (try simp only [Exit.inBlock, Exit.then])
                refine bodyPost_ret (v := .tuple #[.agg #[.int .i64 0, .int .i64 0, .int .i64 0, .slice none 0 0, .slice none 0 0], .int .i64 3]) (results_row_tmp (P := Try.prog) (fn := Try.f15) (p := 2) (u := 3) (ty := 30) rfl _ _ w.heap.size 30 _ (0, 0) _ rfl a1 Try.underlying30 rfl edit5 _ rfl) rfl ⟨_, by rw [HE.out]; rfl, ⟨⟨_, _, _, _, _, _, _, _, _, rfl⟩, fun hx => ?_⟩, a2⟩
                rw [HE.out] at hx
                exact absurd (show (3 : Nat) = 0 from hx) (by decide)
            · have hez2 : ((ez : Int) != 0) = true := by simp; omega
              have HE : Hid (decE xs = (g1, g2, g3, acc, zacc, ez)) := by
                unfold Hid
                rw [HD.out]
                unfold endE
                rw [if_pos he]
              have HNE := hid he
              have hcase2 : (¬ (0 : Int) < (k : Int)) ∨ ((0 : Int) < (k : Int) ∧ ((ez : Int) == 0) = false) := by
                by_cases h0 : 0 < k
                · exact .inr ⟨by omega, by rw [beq_eq_false_iff_ne]; omega⟩
                · exact .inl (by omega)
              clear HD hgo he
              rcases hcase2 with hA3 | ⟨hA3, hA4⟩
              all_goals
                go_wp2
                go_region
                all_goals
                 go_wp2
                 obtain ⟨a1, a2, _⟩ := hP2.ans (.int .i64 0) (.int .i64 0) (.int .i64 0) (.slice none 0 0) (.slice none 0 0)
                 (try simp only [Exit.inBlock, Exit.then])
                 refine bodyPost_ret (v := .tuple #[.agg #[.int .i64 0, .int .i64 0, .int .i64 0, .slice none 0 0, .slice none 0 0], .int .i64 (ez : Int)]) (results_row_tmp (P := Try.prog) (fn := Try.f15) (p := 2) (u := 3) (ty := 30) rfl _ _ w.heap.size 30 _ (0, 0) _ rfl (heap_drew a1) Try.underlying30 rfl edit5 _ rfl) rfl ⟨_, by rw [HE.out], ⟨⟨_, _, _, _, _, _, _, _, _, rfl⟩, fun hx => ?_⟩, below_drew a2⟩
                 rw [HE.out] at hx
                 exact absurd hx HNE.out
end Go.Proofs.Ythiolcccgiibhaa
