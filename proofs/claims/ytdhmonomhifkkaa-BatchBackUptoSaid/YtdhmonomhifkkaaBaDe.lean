/- Layer 8: Decode: the walk. -/
import Derived.Test.YtdhmonomhifkkaaBaDo
namespace Go.Proofs.Ytdhmonomhifkkaa
open Go.RowKit
set_option linter.unusedVariables false
set_option linter.unusedSimpArgs false

theorem results_row_tmp {P : Program} {fn : Func} {p u : Tmp} {ty : TypeId} (h : fn.results = #[.cell p ty, .tmp u]) (tmps : Array Value) (w : World) (g : Nat) (t : TypeId) (cs : Array Value) (fr : Nat × Nat) (d : TypeDesc)
    (hp : tmps.getD p undef = .pointer (some ⟨g, 0, none⟩)) (hg : w.heap[g]? = some (.cells cs t fr))
    (hu : P.underlying ty = some d) (hd : (match d with | .struct _ | .array _ _ => true | _ => false) = true) (hi : (P.info? ty).map (·.size) = some cs.size) (x : Value) (hx : tmps.getD u undef = x) :
    (results fn tmps).run P w = .ok (.tuple #[.agg cs, x]) w := by
  rw [results_cell_tmp h, hp, hx]
  simp [asAddr, run_loadVar_row w g t ty cs fr d hg hu hd hi, Result.andThen]
theorem set2 {w : World} {b : Nat} {x y : Value} {T : TypeId} (x' y' : Value) (h : w.heap[b]? = some (.cells #[x, y] T (0, 0))) : ((w.setCell ⟨b, 0, none⟩ x').setCell ⟨b, 1, none⟩ y').heap[b]? = some (.cells #[x', y'] T (0, 0)) := by
  have h1 := heap_setCell_same w b 0 _ _ x' h
  have h2 := heap_setCell_same _ b 1 _ _ y' h1
  exact h2
theorem heap_drew {w : World} {b : Nat} {o : Obj} (h : w.heap[b]? = some o) : w.drew.heap[b]? = some o := h
/-- What Decode tells, where it tells no error. -/
def DecC (w' : World) (xs : List UInt8) (v : Value) : Prop :=
  (∃ x A n c, v = .agg #[.int .i64 x, .slice A n c]) ∧ ((decR xs).2.2 = 0 → ∃ A c, v = .agg #[.int .i64 ((decR xs).1 : Int), .slice A (decR xs).2.1.length c] ∧ ROps w' A (decR xs).2.1.length (decR xs).2.1 ∧ (decR xs).2.1.length ≤ c)
theorem batch2 : (Try.prog.info? 24).map (·.size) = some 2 := by kernel_rfl
/-- The reader's error set: all else stays. -/
theorem DecP.fin {w wr : World} {b1 b2 : Nat} {s : Int} {acc : List OpR} {xs : List UInt8} {er : Nat} {Ab : Option Addr} {nb cb : Nat} {Ar : Option Addr} {cr : Nat} {V : List (List Value)} (h : DecP w wr b1 b2 s acc xs er Ab nb cb Ar cr V) (e2 : Nat) : DecP w (wr.setCell ⟨b1, 1, none⟩ (.int .i64 (e2 : Int))) b1 b2 s acc xs e2 Ab nb cb Ar cr V := by
  obtain ⟨hR, hrb, hb2, hv, hrel, hz, hB, p1, p2⟩ := h
  have hg := grown_set wr b1 1 (.int .i64 (e2 : Int))
  have hblk := hR.1
  have hB1 := hB.grown hg hB.size (fun k hk => by cases hk; omega)
  have h12 : b1 ≠ b2 := blk_ne hblk hb2 (by decide)
  exact ⟨hR.err e2, hrb, blk_grown' hg hb2 (fun e => h12 (Option.some.inj e)), hv.other hg (.inr (hv.ne_blk hblk (by decide))), hrel.mono fun x a hx => hx.setT hg hblk (by decide), blk_grown' hg hz (fun e => by have := Option.some.inj e; omega), hB1, p1, p2⟩
theorem below_drew {w W : World} (h : Below w.heap.size w W) : Below w.heap.size w W.drew := ⟨h.os, h.tape, h.output, h.size, h.block⟩
theorem DecP.ans {w wr : World} {b1 b2 : Nat} {s : Int} {acc : List OpR} {xs : List UInt8} {er : Nat} {Ab : Option Addr} {nb cb : Nat} {Ar : Option Addr} {cr : Nat} {V : List (List Value)} (h : DecP w wr b1 b2 s acc xs er Ab nb cb Ar cr V) (x y : Value) :
    ((wr.setCell ⟨w.heap.size, 0, none⟩ x).setCell ⟨w.heap.size, 1, none⟩ y).heap[w.heap.size]? = some (.cells #[x, y] 24 (0, 0)) ∧ Below w.heap.size w ((wr.setCell ⟨w.heap.size, 0, none⟩ x).setCell ⟨w.heap.size, 1, none⟩ y) ∧
    (acc.length ≤ 9223372036854775807 → ROps ((wr.setCell ⟨w.heap.size, 0, none⟩ x).setCell ⟨w.heap.size, 1, none⟩ y) Ar acc.length acc ∧ acc.length ≤ cr) := by
  obtain ⟨hR, hrb, hb2, hv, hrel, hz, hB, p1, p2⟩ := h
  have g1 := grown_set wr w.heap.size 0 x
  have g2 := grown_set (wr.setCell ⟨w.heap.size, 0, none⟩ x) w.heap.size 1 y
  have z1 := heap_setCell_same wr w.heap.size 0 _ _ x hz
  refine ⟨set2 x y hz, (hB.setCell (Nat.le_refl _) _).setCell (Nat.le_refl _) _, fun hm => ?_⟩
  have v1 := hv.other g1 (.inr (hv.ne_blk hz (by decide)))
  have v2 := v1.other g2 (.inr (v1.ne_blk z1 (by decide)))
  have r2 := (hrel.mono fun x a hx => hx.setT g1 hz (by decide)).mono fun x a hx => hx.setT g2 z1 (by decide)
  obtain ⟨A, c, e, hc, hr⟩ := ROps_of_OV v2 r2 hm
  injection e with e1 e2 e3
  subst e1 e3
  exact ⟨hr, hc⟩
theorem mayE_nat (s : Int) (ops : List OpR) : ∃ E : Nat, mayE s ops = (E : Int) ∧ E ≤ 100 := by
  have ho : ∀ o, ∃ E : Nat, opE o = (E : Int) ∧ E ≤ 100 := by
    intro o
    unfold opE mayOpE
    split
    · exact ⟨1, rfl, by omega⟩
    · split
      · exact ⟨2, rfl, by omega⟩
      · exact ⟨0, rfl, by omega⟩
  have hf : ∀ k, ∃ E : Nat, firstE ops k = (E : Int) ∧ E ≤ 100 := by
    intro k
    induction k with
    | zero => exact ⟨0, rfl, by omega⟩
    | succ k ih =>
      rw [firstE]
      split
      · exact ih
      · exact ho _
  unfold mayE
  split
  · exact ⟨13, rfl, by omega⟩
  · split
    · exact ⟨1, rfl, by omega⟩
    · exact hf _
theorem DecP.ops {w wr : World} {b1 b2 : Nat} {s : Int} {acc : List OpR} {xs : List UInt8} {er : Nat} {Ab : Option Addr} {nb cb : Nat} {Ar : Option Addr} {cr : Nat} {V : List (List Value)} (h : DecP w wr b1 b2 s acc xs er Ab nb cb Ar cr V) (hm : acc.length ≤ 9223372036854775807) : ROps wr Ar acc.length acc := by
  obtain ⟨A, c, e, hc, hr⟩ := ROps_of_OV h.2.2.2.1 h.2.2.2.2.1 hm
  injection e with e1 e2 e3
  subst e1
  exact hr
theorem wf_of_i64 {z : Int} (h1 : -9223372036854775808 ≤ z) (h2 : z ≤ 9223372036854775807) : (Lit.int .i64 z).wf = true := by
  have m : IntKind.i64.min = -9223372036854775808 := rfl
  have M : IntKind.i64.max = 9223372036854775807 := rfl
  simp [Lit.wf]
  omega
set_option maxHeartbeats 16000000 in
set_option maxRecDepth 100000 in
theorem decode_any (A : Option Addr) (n c : Nat) (xs : List UInt8) (w : World) (h : RB w A n xs) (hc : n ≤ c) (hsz : n ≤ 140737488351232) :
    Calls Try.prog 16 #[.slice A n c] w fun e w' => ∃ v, e = .returned (.tuple #[v, .int .i64 (decR xs).2.2]) ∧ DecC w' xs v ∧ Below w.heap.size w w' := by
  have e0 : (w.alloc (.cells #[.int .i64 0, .slice none 0 0] 24)).heap.size = w.heap.size + 1 := by simp
  have hR0 : Rd ((w.alloc (.cells #[.int .i64 0, .slice none 0 0] 24)).alloc (.cells #[.slice A n c, .int .i64 0] 54)) (w.heap.size + 1) A n c xs 0 := by
    refine ⟨?_, (h.alloc _).alloc _, hc, hsz⟩
    rw [← e0]
    exact heap_alloc_new _ _
  have HR0 := hid hR0
  clear hR0
  obtain ⟨s, x1, r1, hS⟩ : ∃ s x1 r1, numR 4611686018427387904 xs 0 = (s, x1, r1) := ⟨_, _, _, rfl⟩
  have b1 := numR_er (most := 4611686018427387904) (xs := xs) (show 0 ≤ 100 by decide)
  rw [hS] at b1
  obtain ⟨br1, bs⟩ : r1 ≤ 100 ∧ s ≤ 4611686018427387904 := b1
  obtain ⟨N, x2, r2, hN⟩ : ∃ N x2 r2, numR 400 x1 r1 = (N, x2, r2) := ⟨_, _, _, rfl⟩
  have b2 := numR_er (most := 400) (xs := x1) br1
  rw [hN] at b2
  obtain ⟨br2, bN⟩ : r2 ≤ 100 ∧ N ≤ 400 := b2
  have HS := hid hS
  have HN := hid hN
  clear hS hN
  go_enter Try.func16, Try.ntmps16
  go_wp2_with (first
    | (go_at_call 25; (with_reducible refine (number_lit (w.heap.size + 1) A n c xs 0 4611686018427387904 4611686018427387904 rfl _ HR0.out (by omega) (by omega)).mono ?_); rintro e w1 ⟨rfl, ⟨A1, n1, c1, hR1, hr1⟩, hg1⟩; rw [HS.out] at hR1 hr1 ⊢; simp only at hR1 hr1 ⊢)
    | (go_at_call 25; (with_reducible refine (number_lit (w.heap.size + 1) A1 n1 c1 x1 r1 400 400 rfl _ (hR1.below (below_alloc' (Below.refl _ _) _)) br1 (by omega)).mono ?_); rintro e w2 ⟨rfl, ⟨A2, n2, c2, hR3, hr2⟩, hg2⟩; rw [HN.out] at hR3 hr2 ⊢; simp only at hR3 hr2 ⊢))
  have hlt1 : w.heap.size + 1 < w1.heap.size := World.block_lt_of_cell? w1 _ (box_at hR1.1 0 _ rfl)
  have hz0 : w1.heap[w.heap.size]? = some (.cells #[.int .i64 0, .slice none 0 0] 24 (0, 0)) := blk_grown' hg1 (blk_below (below_alloc' (Below.refl _ _) _) (heap_alloc_new w _)) (by intro e; have := Option.some.inj e; omega)
  have hB0 : Below w.heap.size w w2 := by
    have g0 := (below_alloc' (below_alloc' (Below.refl w.heap.size w) (.cells #[.int .i64 0, .slice none 0 0] 24)) (.cells #[.slice A n c, .int .i64 0] 54))
    have g1 := g0.grown hg1 g0.size (fun k hk => by cases hk; omega)
    have g2 := below_alloc' g1 (.cells #[.int .i64 (s : Int), .slice none 0 0] 24)
    exact g2.grown hg2 g2.size (fun k hk => by cases hk; omega)
  have hD : DecL w (w.heap.size + 1) w1.heap.size s [] x2 r2 w2 := by
    refine ⟨A2, n2, c2, none, 0, [], hR3, hr2 _ (hr1 _ h), blk_grown' hg2 (heap_alloc_new w1 _) (by intro e; have := Option.some.inj e; omega), OV.nil _ _ _ _, RelV.nil, ?_, hB0, by omega, by omega⟩
    exact blk_grown' hg2 (blk_below (below_alloc' (Below.refl _ _) _) hz0) (by intro e; have := Option.some.inj e; omega)
  clear hR1 hR3 hg1 hg2 hz0 hB0 HR0 e0 h hr1 hr2
  go_loopw [7] (fun i wr => ∃ (k : Nat) (acc : List OpR) (ys : List UInt8) (er : Nat), i = .int .u64 (k : Int) ∧ k ≤ N ∧ er ≤ 100 ∧ acc.length ≤ k ∧ loopR (N - k) ys er acc = loopR N x2 r2 [] ∧ DecL w (w.heap.size + 1) w1.heap.size s acc ys er wr) (fun i wr => N - (intOf i).toNat)
  case atStart => exact ⟨0, [], x2, r2, rfl, Nat.zero_le _, br2, Nat.le_refl _, rfl, hD⟩
  case round =>
    obtain ⟨k, acc, ys, er, rfl, hk, her, hacc, hloop, hDk⟩ := hrel
    obtain ⟨Ab, nb, cb, Ar, cr, V, hP⟩ := hDk
    have hR := hP.rd
    have hlV : V.length = acc.length := hP.2.2.2.2.1.1
    have hq0 := box_at hR.1 0 (.slice Ab nb cb) rfl
    have hq1 := box_at hR.1 1 (.int .i64 (er : Int)) rfl
    have HL := hid hloop
    clear hloop
    by_cases hgo : k < N ∧ er = 0
    · obtain ⟨hlt, rfl⟩ := hgo
      have hlti : (k : Int) < (N : Int) := by omega
      obtain ⟨G, y3, e3, hG⟩ : ∃ G y3 e3, goneR ys 0 = (G, y3, e3) := ⟨_, _, _, rfl⟩
      obtain ⟨K, y4, e4, hK⟩ : ∃ K y4 e4, bytesR 512 y3 e3 = (K, y4, e4) := ⟨_, _, _, rfl⟩
      have her3 := goneR_er (xs := ys) (show 0 ≤ 100 by decide)
      rw [hG] at her3
      have her4 := bytesR_er (most := 512) (xs := y3) her3
      rw [hK] at her4
      simp only at her3 her4
      have HG := hid hG
      have HK := hid hK
      clear hG hK
      cases G with
      | true =>
        have H1 : Hid (loopR (N - (k + 1)) y4 e4 (acc ++ [mkOp K true 0 []]) = loopR N x2 r2 []) := by
          unfold Hid
          rw [← HL.out, show N - k = (N - (k + 1)) + 1 by omega, loopR, if_neg (by omega)]
          unfold oneR
          simp only [HG.out, HK.out, if_true]
        go_wp2_with (first
          | (go_at_call 26; (with_reducible refine (gone_any (w.heap.size + 1) Ab nb cb ys 0 _ hR (by omega)).mono ?_); rintro e w3 ⟨rfl, hC3⟩; rw [HG.out] at hC3 ⊢; simp only at hC3 ⊢; obtain ⟨A3, n3, c3, hP3⟩ := hP.read hC3; have hO3 := DecO.start hP3 true; have hl3 := blk_lt hP3.1.1; have hR3 := hO3.1.rd)
          | (go_at_call 27; (with_reducible refine (bytes_any (w.heap.size + 1) A3 n3 c3 y3 e3 512 _ hR3 her3 (by omega)).mono ?_); rintro e w4 ⟨v4, rfl, hown4, hC4⟩; rw [HK.out] at hown4 hC4; simp only at hown4 hC4; obtain ⟨A4, n4, c4, hO4⟩ := hO3.read hC4; have hO5 := hO4.set (i := 0) (v := v4) (o' := mkOp K true 0 []) (kv' := v4) (vv' := .slice none 0 0) rfl (hown4.mono hO3.1.below.size) (OB.nil _ _); obtain ⟨A5, c5, rfl, _, _⟩ := hown4.open_; have hbo4 := hO4.2.2.2.1; have hq4 := box_at hbo4 0 (.slice none 0 0) rfl; have hf4 := fun i => frozen_of_row w4 w3.heap.size i _ _ hbo4; have hbo5 := hO5.2.2.2.1; have hq5 := box_at hbo5 0 (.slice A5 K.length c5) rfl; have hq6 := box_at hbo5 1 (.bool true) rfl; have hq7 := box_at hbo5 2 (.int .i64 0) rfl; have hq8 := box_at hbo5 3 (.slice none 0 0) rfl; have hbx5 := hO5.1.out; have hq9 := box_at hbx5 1 (.slice Ar acc.length cr) rfl)
          | (at_builtin; go_loud (refine wpV_append1 22 28 _ 4 64 Try.underlying22 opinfo rfl (by omega) w (w4.setCell ⟨w3.heap.size, 0, none⟩ (.slice A5 K.length c5)) w.heap.size rfl (.tmp 47) (.tmp 49) rfl (.slice Ar acc.length cr) V rfl hO5.1.2.2.2.1 #[.slice A5 K.length c5, .bool true, .int .i64 0, .slice none 0 0] rfl (ones4 rfl rfl rfl rfl) 1 _ (by simp) rfl (by simp only [maxLen]; omega) (by omega) hO5.1.below hO5.1.below.size ?_); intro v6 w6 hv6 hB6 hgr _; obtain ⟨B, c6, rfl, hc6⟩ := hv6.openN (acc.length + 1) (by rw [List.length_append, hlV]; rfl); have hL6 := hO5.push hgr hv6 (show (Lit.int .i64 0).wf = true by decide); have hbx6 := blk_grown' hgr hbx5 (hO5.1.2.2.2.1.ne_blk hbx5 (by decide)); have hf6 := frozen_of_row w6 w1.heap.size 1 _ _ hbx6; have hq10 := box_at hbx6 1 (.slice Ar acc.length cr) rfl))
        go_roundw
        case rel => exact ⟨k + 1, acc ++ [mkOp K true 0 []], y4, e4, by go_num, by omega, her4, by simp; omega, H1.out, hL6⟩
        case measure => simp [intOf]; omega
      | false =>
        obtain ⟨T, y5, e5, hT⟩ : ∃ T y5 e5, numR 4611686018427387904 y4 e4 = (T, y5, e5) := ⟨_, _, _, rfl⟩
        obtain ⟨L, y6, e6, hL⟩ : ∃ L y6 e6, bytesR 2048 y5 e5 = (L, y6, e6) := ⟨_, _, _, rfl⟩
        have her5 := numR_er (most := 4611686018427387904) (xs := y4) her4
        rw [hT] at her5
        obtain ⟨her5, bT⟩ : e5 ≤ 100 ∧ T ≤ 4611686018427387904 := her5
        have her6 := bytesR_er (most := 2048) (xs := y5) her5
        rw [hL] at her6
        simp only at her6
        have HT := hid hT
        have HL2 := hid hL
        have hwf : (Lit.int .i64 (T : Int)).wf = true := wf_of_i64 (by omega) (by omega)
        clear hT hL
        have H1 : Hid (loopR (N - (k + 1)) y6 e6 (acc ++ [mkOp K false (T : Int) L]) = loopR N x2 r2 []) := by
          unfold Hid
          rw [← HL.out, show N - k = (N - (k + 1)) + 1 by omega, loopR, if_neg (by omega)]
          unfold oneR
          simp only [HG.out, HK.out, HT.out, HL2.out, Bool.false_eq_true, if_false]
        go_wp2_with (first
          | (go_at_call 26; (with_reducible refine (gone_any (w.heap.size + 1) Ab nb cb ys 0 _ hR (by omega)).mono ?_); rintro e w3 ⟨rfl, hC3⟩; rw [HG.out] at hC3 ⊢; simp only at hC3 ⊢; obtain ⟨A3, n3, c3, hP3⟩ := hP.read hC3; have hO3 := DecO.start hP3 false; have hl3 := blk_lt hP3.1.1; have hR3 := hO3.1.rd)
          | (go_at_call 27; (with_reducible refine (bytes_any (w.heap.size + 1) A3 n3 c3 y3 e3 512 _ hR3 her3 (by omega)).mono ?_); rintro e w4 ⟨v4, rfl, hown4, hC4⟩; rw [HK.out] at hown4 hC4; simp only at hown4 hC4; obtain ⟨A4, n4, c4, hO4⟩ := hO3.read hC4; have hO5 := hO4.set (i := 0) (v := v4) (o' := mkOp K false 0 []) (kv' := v4) (vv' := .slice none 0 0) rfl (hown4.mono hO3.1.below.size) (OB.nil _ _); obtain ⟨A5, c5, rfl, _, _⟩ := hown4.open_; have hbo4 := hO4.2.2.2.1; have hq4 := box_at hbo4 0 (.slice none 0 0) rfl; have hf4 := fun i => frozen_of_row w4 w3.heap.size i _ _ hbo4; have hbo5 := hO5.2.2.2.1; have hq6 := box_at hbo5 1 (.bool false) rfl; have hR5 := hO5.1.rd)
          | (go_at_call 25; (with_reducible refine (number_lit (w.heap.size + 1) A4 n4 c4 y4 e4 4611686018427387904 4611686018427387904 rfl _ hR5 her4 (by omega)).mono ?_); rintro e w5 ⟨rfl, hC5⟩; rw [HT.out] at hC5 ⊢; simp only at hC5 ⊢; obtain ⟨A6, n6, c6, hO6⟩ := hO5.read hC5; have hO7 := hO6.set (i := 2) (v := .int .i64 (T : Int)) (o' := mkOp K false (T : Int) []) (kv' := .slice A5 K.length c5) (vv' := .slice none 0 0) rfl hO6.2.2.2.2.1 (OB.nil _ _); have hbo6 := hO6.2.2.2.1; have hq11 := box_at hbo6 2 (.int .i64 0) rfl; have hf6 := fun i => frozen_of_row w5 w3.heap.size i _ _ hbo6; have hR7 := hO7.1.rd)
          | (go_at_call 27; (with_reducible refine (bytes_any (w.heap.size + 1) A6 n6 c6 y5 e5 2048 _ hR7 her5 (by omega)).mono ?_); rintro e w6 ⟨v6, rfl, hown6, hC6⟩; rw [HL2.out] at hown6 hC6; simp only at hown6 hC6; obtain ⟨A8, n8, c8, hO8⟩ := hO7.read hC6; have hO9 := hO8.set (i := 3) (v := v6) (o' := mkOp K false (T : Int) L) (kv' := .slice A5 K.length c5) (vv' := v6) rfl hO8.2.2.2.2.1 (hown6.mono hO7.1.below.size); obtain ⟨A9, c9, rfl, _, _⟩ := hown6.open_; have hbo8 := hO8.2.2.2.1; have hq12 := box_at hbo8 3 (.slice none 0 0) rfl; have hf8 := fun i => frozen_of_row w6 w3.heap.size i _ _ hbo8; have hbo9 := hO9.2.2.2.1; have hq13 := box_at hbo9 0 (.slice A5 K.length c5) rfl; have hq14 := box_at hbo9 1 (.bool false) rfl; have hq15 := box_at hbo9 2 (.int .i64 (T : Int)) rfl; have hq16 := box_at hbo9 3 (.slice A9 L.length c9) rfl; have hbx5 := hO9.1.out; have hq9 := box_at hbx5 1 (.slice Ar acc.length cr) rfl)
          | (at_builtin; go_loud (refine wpV_append1 22 28 _ 4 64 Try.underlying22 opinfo rfl (by omega) w (w6.setCell ⟨w3.heap.size, 3, none⟩ (.slice A9 L.length c9)) w.heap.size rfl (.tmp 47) (.tmp 49) rfl (.slice Ar acc.length cr) V rfl hO9.1.2.2.2.1 #[.slice A5 K.length c5, .bool false, .int .i64 (T : Int), .slice A9 L.length c9] rfl (ones4 rfl rfl rfl rfl) 1 _ (by simp) rfl (by simp only [maxLen]; omega) (by omega) hO9.1.below hO9.1.below.size ?_); intro v7 w7 hv7 hB7 hgr _; obtain ⟨B, c7, rfl, hc7⟩ := hv7.openN (acc.length + 1) (by rw [List.length_append, hlV]; rfl); have hL7 := hO9.push hgr hv7 hwf; have hbx6 := blk_grown' hgr hbx5 (hO9.1.2.2.2.1.ne_blk hbx5 (by decide)); have hf7 := frozen_of_row w7 w1.heap.size 1 _ _ hbx6; have hq10 := box_at hbx6 1 (.slice Ar acc.length cr) rfl))
        go_roundw
        case rel => exact ⟨k + 1, acc ++ [mkOp K false (T : Int) L], y6, e6, by go_num, by omega, her6, by simp; omega, H1.out, hL7⟩
        case measure => simp [intOf]; omega
    · have hdone : loopR (N - k) ys er acc = (acc, ys, er) := by
        by_cases h0 : k < N
        · exact loopR_err (fun e => hgo ⟨h0, e⟩) _ _ _
        · rw [show N - k = 0 by omega]; rfl
      have hLN := HL.out
      rw [hdone] at hLN
      have HD : Hid (decR xs = (s, acc, if (if er = 0 ∧ 0 < ys.length then 3 else er) = 0 then mayE s acc else (((if er = 0 ∧ 0 < ys.length then 3 else er : Nat)) : Int))) := by
        unfold Hid decR
        rw [HS.out]
        simp only
        rw [HN.out]
        simp only
        rw [← hLN]
      have hnb : ys.length = nb := hP.2.1.1
      have hz0 := box_at hP.2.2.2.2.2.1 0 (.int .i64 0) rfl
      have hz1 := box_at hP.2.2.2.2.2.1 1 (.slice none 0 0) rfl
      have hfz := fun i => frozen_of_row wr w.heap.size i _ _ hP.2.2.2.2.2.1
      clear hdone hLN HL
      by_cases he : er = 0
      · subst he
        have hkN : ¬ (k : Int) < (N : Int) := by omega
        clear hgo
        by_cases hy : nb = 0
        · have hy1 : ¬ (0 : Int) < (nb : Int) := by omega
          obtain ⟨E, hE, bE⟩ := mayE_nat s acc
          have HE : Hid (decR xs = (s, acc, (E : Int))) := by
            unfold Hid
            rw [HD.out, ← hE, if_neg (show ¬ ((0 : Nat) = 0 ∧ 0 < ys.length) by omega), if_pos rfl]
          have HM := hid hE
          have hO := hP.ops (by omega)
          have hq5 := box_at hP.out 0 (.int .i64 (s : Int)) rfl
          have hq6 := box_at hP.out 1 (.slice Ar acc.length cr) rfl
          clear hE HD
          by_cases hE0 : E = 0
          · subst hE0
            go_wp2_with (go_at_call 9; (with_reducible refine (may_any (s : Int) Ar acc.length cr acc _ hO ⟨by omega, by omega⟩).mono ?_); rintro e w3 ⟨rfl, hb3⟩; rw [HM.out]; have hP3 := hP.more hb3; have hf3 := fun i => frozen_of_row w3 (w.heap.size + 1) i _ _ hP3.1.1; have hq7 := box_at hP3.1.1 1 (.int .i64 0) rfl; have hP4 : DecP w (w3.setCell ⟨w.heap.size + 1, 1, none⟩ (.int .i64 0)) (w.heap.size + 1) w1.heap.size s acc ys 0 Ab nb cb Ar cr V := hP3.fin 0; have hq8 := box_at hP4.1.1 1 (.int .i64 0) rfl; have hq9 := box_at hP4.out 0 (.int .i64 (s : Int)) rfl; have hq10 := box_at hP4.out 1 (.slice Ar acc.length cr) rfl; have hz2 := hP4.2.2.2.2.2.1; have hz3 := box_at hz2 0 (.int .i64 0) rfl; have hz4 := box_at hz2 1 (.slice none 0 0) rfl; have hfz2 := fun i => frozen_of_row _ w.heap.size i _ _ hz2; obtain ⟨a1, a2, a3⟩ := hP4.ans (.int .i64 (s : Int)) (.slice Ar acc.length cr))
            (try simp only [Exit.inBlock, Exit.then])
            refine bodyPost_ret (v := .tuple #[.agg #[.int .i64 (s : Int), .slice Ar acc.length cr], .int .i64 0]) (results_row_tmp (P := Try.prog) (fn := Try.f16) (p := 2) (u := 3) (ty := 24) rfl _ _ w.heap.size 24 _ (0, 0) _ rfl a1 Try.underlying24 rfl batch2 _ rfl) rfl ⟨_, by rw [HE.out]; rfl, ?_, a2⟩
            refine ⟨⟨_, _, _, _, rfl⟩, fun _ => ?_⟩
            rw [HE.out]
            exact ⟨Ar, cr, rfl, (a3 (by omega)).1, (a3 (by omega)).2⟩
          · have hez : ((E : Int) != 0) = true := by simp; omega
            go_wp2_with (go_at_call 9; (with_reducible refine (may_any (s : Int) Ar acc.length cr acc _ hO ⟨by omega, by omega⟩).mono ?_); rintro e w3 ⟨rfl, hb3⟩; rw [HM.out]; have hP3 := hP.more hb3; have hf3 := fun i => frozen_of_row w3 (w.heap.size + 1) i _ _ hP3.1.1; have hq7 := box_at hP3.1.1 1 (.int .i64 0) rfl; have hP4 := hP3.fin E; have hq8 := box_at hP4.1.1 1 (.int .i64 (E : Int)) rfl; have hz2 := hP4.2.2.2.2.2.1; have hz3 := box_at hz2 0 (.int .i64 0) rfl; have hz4 := box_at hz2 1 (.slice none 0 0) rfl; have hfz2 := fun i => frozen_of_row _ w.heap.size i _ _ hz2; obtain ⟨a1, a2, a3⟩ := hP4.ans (.int .i64 0) (.slice none 0 0))
            go_region
            go_wp2
            refine bodyPost_ret (v := .tuple #[.agg #[.int .i64 0, .slice none 0 0], .int .i64 (E : Int)]) (results_row_tmp (P := Try.prog) (fn := Try.f16) (p := 2) (u := 3) (ty := 24) rfl _ _ w.heap.size 24 _ (0, 0) _ rfl (heap_drew a1) Try.underlying24 rfl batch2 _ rfl) rfl ⟨_, by rw [HE.out], ?_, below_drew a2⟩
            refine ⟨⟨_, _, _, _, rfl⟩, fun h => ?_⟩
            rw [HE.out] at h
            exact absurd (Int.ofNat.inj h) hE0
        · have hy1 : (0 : Int) < (nb : Int) := by omega
          have HE : Hid (decR xs = (s, acc, 3)) := by
            unfold Hid
            rw [HD.out, if_pos (show (0 : Nat) = 0 ∧ 0 < ys.length from ⟨rfl, by omega⟩)]
            rfl
          have hf1 := fun i => frozen_of_row wr (w.heap.size + 1) i _ _ hR.1
          have hP1 := hP.fin 3
          have hb1 := hP1.1.1
          have hq3 := box_at hb1 1 (.int .i64 3) rfl
          have hz2 := hP1.2.2.2.2.2.1
          have hz3 := box_at hz2 0 (.int .i64 0) rfl
          have hz4 := box_at hz2 1 (.slice none 0 0) rfl
          have hfz2 := fun i => frozen_of_row _ w.heap.size i _ _ hz2
          obtain ⟨a1, a2, _⟩ := hP1.ans (.int .i64 0) (.slice none 0 0)
          clear HD
          go_wp2
          go_region
          go_wp2
          refine bodyPost_ret (v := .tuple #[.agg #[.int .i64 0, .slice none 0 0], .int .i64 3]) (results_row_tmp (P := Try.prog) (fn := Try.f16) (p := 2) (u := 3) (ty := 24) rfl _ _ w.heap.size 24 _ (0, 0) _ rfl (heap_drew a1) Try.underlying24 rfl batch2 _ rfl) rfl ⟨_, by rw [HE.out], ?_, below_drew a2⟩
          refine ⟨⟨_, _, _, _, rfl⟩, fun h => ?_⟩
          rw [HE.out] at h
          exact absurd (show (3 : Int) = 0 from h) (by decide)
      · have hez : ((er : Int) == 0) = false := by rw [beq_eq_false_iff_ne]; omega
        have hez2 : ((er : Int) != 0) = true := by simp; omega
        have HE : Hid (decR xs = (s, acc, (er : Int))) := by
          unfold Hid
          rw [HD.out, if_neg (show ¬ (er = 0 ∧ 0 < ys.length) from fun h => he h.1), if_neg he]
        have HZ : Hid (DecC (((wr.setCell ⟨w.heap.size, 0, none⟩ (.int .i64 0)).setCell ⟨w.heap.size, 1, none⟩ (.slice none 0 0)).drew) xs (.agg #[.int .i64 0, .slice none 0 0])) := by
          refine ⟨⟨_, _, _, _, rfl⟩, fun h => ?_⟩
          rw [HE.out] at h
          exact absurd (Int.ofNat.inj h) he
        obtain ⟨a1, a2, _⟩ := hP.ans (.int .i64 0) (.slice none 0 0)
        clear hgo he HD
        by_cases hkN : (k : Int) < (N : Int)
        all_goals
          go_wp2
          go_region
          go_wp2
          refine bodyPost_ret (v := .tuple #[.agg #[.int .i64 0, .slice none 0 0], .int .i64 (er : Int)]) (results_row_tmp (P := Try.prog) (fn := Try.f16) (p := 2) (u := 3) (ty := 24) rfl _ _ w.heap.size 24 _ (0, 0) _ rfl (heap_drew a1) Try.underlying24 rfl batch2 _ rfl) rfl ⟨_, by rw [HE.out], HZ.out, below_drew a2⟩
end Go.Proofs.Ytdhmonomhifkkaa
