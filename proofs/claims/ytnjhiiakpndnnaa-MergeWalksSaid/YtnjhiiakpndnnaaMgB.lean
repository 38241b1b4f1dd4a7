/- Layer 16: the order of two entries, rows in order, an entry of one's own: the walks. -/
import Derived.Test.YtnjhiiakpndnnaaMgA
namespace Go.Proofs.Ytnjhiiakpndnnaa
open Go.RowKit
set_option linter.unusedVariables false
set_option linter.unusedSimpArgs false

set_option maxHeartbeats 8000000 in
theorem order_any (Ak : Option Addr) (nk ck : Nat) (Av : Option Addr) (nv cv : Nat) (a : EntR) (Bk : Option Addr) (mk dk : Nat) (Bv : Option Addr) (mv dv : Nat) (b : EntR) (w : World) (h1 : RB w Ak nk (eKey a)) (h2 : RB w Bk mk (eKey b)) :
    Calls Try.prog 32 #[.agg #[.slice Ak nk ck, .int .i64 (eSeq a), .bool (eGone a), .int .i64 (eTil a), .slice Av nv cv], .agg #[.slice Bk mk dk, .int .i64 (eSeq b), .bool (eGone b), .int .i64 (eTil b), .slice Bv mv dv]] w
      fun r w' => r = .returned (.int .i64 (aheadR a b)) ∧ Below w.heap.size w w' := by
  obtain ⟨C, hC⟩ : ∃ C, cmpB (eKey a) (eKey b) = C := ⟨_, rfl⟩
  have HA : Hid (aheadR a b = if C ≠ 0 then C else if eSeq b < eSeq a then -1 else if eSeq a < eSeq b then 1 else 0) := by unfold Hid aheadR; rw [hC]
  have hba := heap_alloc_new w (.cells #[.slice Ak nk ck, .int .i64 (eSeq a), .bool (eGone a), .int .i64 (eTil a), .slice Av nv cv] 35)
  have hbb := heap_alloc_new (w.alloc (.cells #[.slice Ak nk ck, .int .i64 (eSeq a), .bool (eGone a), .int .i64 (eTil a), .slice Av nv cv] 35)) (.cells #[.slice Bk mk dk, .int .i64 (eSeq b), .bool (eGone b), .int .i64 (eTil b), .slice Bv mv dv] 35)
  have e0 : (w.alloc (.cells #[.slice Ak nk ck, .int .i64 (eSeq a), .bool (eGone a), .int .i64 (eTil a), .slice Av nv cv] 35)).heap.size = w.heap.size + 1 := by simp
  rw [e0] at hbb
  have hB : Below w.heap.size w ((w.alloc (.cells #[.slice Ak nk ck, .int .i64 (eSeq a), .bool (eGone a), .int .i64 (eTil a), .slice Av nv cv] 35)).alloc (.cells #[.slice Bk mk dk, .int .i64 (eSeq b), .bool (eGone b), .int .i64 (eTil b), .slice Bv mv dv] 35)) := below_alloc' (below_alloc' (Below.refl _ _) _) _
  have hba := blk_below (below_alloc' (Below.refl _ _) (.cells #[.slice Bk mk dk, .int .i64 (eSeq b), .bool (eGone b), .int .i64 (eTil b), .slice Bv mv dv] 35)) hba
  have H1 := hid (h1.below hB)
  have H2 := hid (h2.below hB)
  have HC := hid hC
  clear h1 h2 hC
  go_enter Try.func32, Try.ntmps32
  go_wp2_with (go_at_call 31; (with_reducible refine (compare_any Ak nk ck (eKey a) Bk mk dk (eKey b) _ H1.out H2.out).mono ?_); rintro r w1 ⟨rfl, rfl⟩; rw [HC.out]; have hB1 := hB; have a1 := box_at hba 1 (.int .i64 (eSeq a)) rfl; have b1 := box_at hbb 1 (.int .i64 (eSeq b)) rfl)
  all_goals
    go_ret
    refine ⟨?_, hB1⟩
    rw [HA.out]
    refine ret_i64 ?_
    try simp only [beq_iff_eq, beq_eq_false_iff_ne, bne_iff_ne, bne_eq_false_iff_eq, decide_eq_true_eq, decide_eq_false_iff_not] at *
    first
    | rfl
    | (simp_all; done)
    | ((repeat' split) <;> omega)
    | trace_state
set_option maxHeartbeats 16000000 in
set_option maxRecDepth 100000 in
theorem ordered_any (A : Option Addr) (n c : Nat) (es : List EntR) (w : World) (h : REnts w A n es) :
    Calls Try.prog 25 #[.slice A n c] w fun e w' => e = .returned (.bool (srtB es)) ∧ Below w.heap.size w w' := by
  have hl := h.1
  have hm := h.2.1
  have HS : Hid (∀ k, n ≤ k → ordN es k → srtB es = true) := fun k hk ho => srtB_true (ordN_Srt fun i h1 h2 => ho i h1 (by omega))
  have HN : Hid (∀ k, 1 ≤ k → k < n → aheadE (elt noEnt es (k - 1)) (elt noEnt es k) = false → srtB es = false) := fun k h1 h2 h3 => srtB_false fun hs => by
    rw [hs.at_ (k - 1) k (by omega) (by omega)] at h3
    cases h3
  have H := hid h
  clear h hl
  go_enter Try.func25, Try.ntmps25
  go_wp2
  go_loopw [3] (fun i wr => ∃ k : Nat, 1 ≤ k ∧ i = .int .i64 k ∧ ordN es k ∧ Below w.heap.size w wr) (fun i wr => n - (intOf i).toNat)
  case atStart => exact ⟨1, by omega, rfl, fun i h1 h2 => by omega, Below.refl _ _⟩
  case round =>
    obtain ⟨k, hk, rfl, ho, hBr⟩ := hrel
    by_cases hlt : k < n
    · obtain ⟨ad, rfl, hc1⟩ := (H.out.below hBr).at_ (show k - 1 < n by omega)
      obtain ⟨ad2, hae, hc2⟩ := (H.out.below hBr).at_ hlt
      obtain rfl := Option.some.inj hae
      obtain ⟨j, hj⟩ : ∃ j, k - 1 = j := ⟨_, rfl⟩
      have hkm : (k : Int) - 1 = (j : Int) := by omega
      have hws : IntKind.i64.wrap (j : Int) = (j : Int) := by rw [IntKind.wrap_i64]; omega
      have hjn : j < n := by omega
      have HO := hid ho
      have HNk := hid (HN.out k hk hlt)
      have HOk : Hid (aheadE (elt noEnt es (k - 1)) (elt noEnt es k) = true → ordN es (k + 1)) := by
        intro h3 i h1 h2
        rcases Nat.lt_or_ge i k with h4 | h4
        · exact ho i h1 h4
        · obtain rfl : i = k := by omega
          exact h3
      rw [hj] at hc1 HNk HOk
      obtain ⟨Ak, nk, ck, Av, nv, cv, a0, a1, a2, a3, a4, a5, _, _, _⟩ := hc1
      obtain ⟨Bk, mk, dk, Bv, mv, dv, b0, b1, b2, b3, b4, b5, _, _, _⟩ := hc2
      generalize elt noEnt es j = x at *
      generalize elt noEnt es k = y at *
      have A5 := hid a5
      have B5 := hid b5
      clear ho hae hj a5 b5
      obtain ⟨C, hC⟩ : ∃ C, aheadR x y = C := ⟨_, rfl⟩
      have HC := hid hC
      clear hC
      by_cases hC0 : 0 ≤ C
      · have HD := hid (decide_eq_true hC0)
        have hf : srtB es = false := HNk.out (by
          have := HC.out
          cases hq : aheadE x y
          · rfl
          · rw [← aheadR_neg] at hq; omega)
        have HF := hid hf
        clear hf hC0
        go_wp2
        go_cut [3, 20] (fun x3 v wx => x3 = .int .i64 (k : Int) ∧ v = .bool true ∧ Below w.heap.size w wx)
        case first =>
          go_region_with (go_at_call 32; (with_reducible refine (order_any Ak nk ck Av nv cv x Bk mk dk Bv mv dv y _ A5.out.drew B5.out.drew).mono ?_); rintro r w1 ⟨rfl, hb1⟩; rw [HC.out])
          all_goals
            go_wp2
            go_meet
            exact ⟨rfl, by rw [HD.out], below_then hBr (below_then (below_drew (Below.refl _ _)) hb1)⟩
        case rest =>
          obtain ⟨rfl, rfl, hB3⟩ := hcut
          go_wp2
          go_ret
          exact ⟨by rw [HF.out]; rfl, hB3⟩
      · have HD := hid (decide_eq_false hC0)
        have ho2 : ordN es (k + 1) := HOk.out (by rw [← aheadR_neg, HC.out]; omega)
        have HO2 := hid ho2
        clear ho2 hC0
        go_wp2
        go_cut [3, 20] (fun x3 v wx => x3 = .int .i64 (k : Int) ∧ v = .bool false ∧ Below w.heap.size w wx)
        case first =>
          go_region_with (go_at_call 32; (with_reducible refine (order_any Ak nk ck Av nv cv x Bk mk dk Bv mv dv y _ A5.out.drew B5.out.drew).mono ?_); rintro r w1 ⟨rfl, hb1⟩; rw [HC.out])
          all_goals
            go_wp2
            go_meet
            exact ⟨rfl, by rw [HD.out], below_then hBr (below_then (below_drew (Below.refl _ _)) hb1)⟩
        case rest =>
          obtain ⟨rfl, rfl, hB3⟩ := hcut
          go_wp2
          go_roundw
          case rel => exact ⟨k + 1, by omega, by go_num, HO2.out, hB3⟩
          case measure => simp [intOf]; omega
    · go_wp2
      go_ret
      exact ⟨by rw [HS.out k (by omega) ho]; rfl, hBr⟩
set_option maxHeartbeats 16000000 in
set_option maxRecDepth 100000 in
theorem own_any (Ak : Option Addr) (nk ck : Nat) (key : List UInt8) (s : Int) (g : Bool) (u : Int) (Av : Option Addr) (nv cv : Nat) (val : List UInt8) (w : World) (hk : RB w Ak nk key) (hv : RB w Av nv val) (h1 : nk ≤ 140737488355328) (h2 : nv ≤ 140737488355328) :
    Calls Try.prog 27 #[.agg #[.slice Ak nk ck, .int .i64 s, .bool g, .int .i64 u, .slice Av nv cv]] w fun e w' => ∃ kv vv, e = .returned (.agg #[kv, .int .i64 s, .bool g, .int .i64 u, vv]) ∧ OB w' w.heap.size kv key ∧ OB w' w.heap.size vv val ∧ Below w.heap.size w w' := by
  have hnk := hk.1
  have hnv := hv.1
  have e0 : (w.alloc (.cells #[.slice Ak nk ck, .int .i64 s, .bool g, .int .i64 u, .slice Av nv cv] 35)).heap.size = w.heap.size + 1 := by simp
  have hbx := blk_below (below_alloc' (Below.refl _ _) (.cells #[.slice none 0 0, .int .i64 0, .bool false, .int .i64 0, .slice none 0 0] 35)) (heap_alloc_new w (.cells #[.slice Ak nk ck, .int .i64 s, .bool g, .int .i64 u, .slice Av nv cv] 35))
  have hrx := heap_alloc_new (w.alloc (.cells #[.slice Ak nk ck, .int .i64 s, .bool g, .int .i64 u, .slice Av nv cv] 35)) (.cells #[.slice none 0 0, .int .i64 0, .bool false, .int .i64 0, .slice none 0 0] 35)
  rw [e0] at hrx
  have hB0 : Below w.heap.size w ((w.alloc (.cells #[.slice Ak nk ck, .int .i64 s, .bool g, .int .i64 u, .slice Av nv cv] 35)).alloc (.cells #[.slice none 0 0, .int .i64 0, .bool false, .int .i64 0, .slice none 0 0] 35)) := below_alloc' (below_alloc' (Below.refl _ _) _) _
  have hk0 := (hk.alloc (.cells #[.slice Ak nk ck, .int .i64 s, .bool g, .int .i64 u, .slice Av nv cv] 35)).alloc (.cells #[.slice none 0 0, .int .i64 0, .bool false, .int .i64 0, .slice none 0 0] 35)
  clear hk
  go_enter Try.func27, Try.ntmps27
  go_wp2_with (first
    | (at_builtin; go_loud (refine wpB_append w _ w.heap.size rfl _ (.tmp 4) rfl (.slice none 0 0) [] rfl (OB.nil _ _) Ak nk ck key rfl hk0 (by simp; omega) hB0 hB0.size ?_); intro v1 w1 hown1 hB1 hg1 _; rw [List.nil_append] at hown1; obtain ⟨A1, c1, rfl, _, _⟩ := hown1.openN nk hnk; have hg1 := below_of_none hg1; have hbx1 := blk_below hg1 hbx; have hrx1 := blk_below hg1 hrx; have q1 := box_at hbx1 0 (.slice Ak nk ck) rfl; have f1 := fun i => frozen_of_row w1 w.heap.size i _ _ hbx1; have gs1 := grown_set w1 w.heap.size 0 (.slice A1 nk c1); have hbx2 := heap_setCell_same w1 w.heap.size 0 _ _ (.slice A1 nk c1) hbx1; have hrx2 := blk_grown' gs1 hrx1 (by intro e; have := Option.some.inj e; omega); have hB2 : Below w.heap.size w (w1.setCell ⟨w.heap.size, 0, none⟩ (.slice A1 nk c1)) := hB1.setCell (Nat.le_refl _) _; have hown2 := hown1.other gs1 (.inr (hown1.ne_blk hbx1 (by decide))); have hv2 := hv.below hB2; have q2 := box_at hbx2 4 (.slice Av nv cv) rfl)
    | (at_builtin; go_loud (refine wpB_append w _ w.heap.size rfl _ (.tmp 8) rfl (.slice none 0 0) [] rfl (OB.nil _ _) Av nv cv val rfl hv2 (by simp; omega) hB2 hB2.size ?_); intro v3 w3 hown3 hB3 hg3 _; rw [List.nil_append] at hown3; obtain ⟨A3, c3, rfl, _, _⟩ := hown3.openN nv hnv; have hg3 := below_of_none hg3; have hbx3 := blk_below hg3 hbx2; have hrx3 := blk_below hg3 hrx2; have hown4 := hown2.below hg3; have q3 := box_at hbx3 4 (.slice Av nv cv) rfl; have f3 := fun i => frozen_of_row w3 w.heap.size i _ _ hbx3; have gs3 := grown_set w3 w.heap.size 4 (.slice A3 nv c3); have hbx4 := heap_setCell_same w3 w.heap.size 4 _ _ (.slice A3 nv c3) hbx3; have hrx4 := blk_grown' gs3 hrx3 (by intro e; have := Option.some.inj e; omega); have hB4 : Below w.heap.size w (w3.setCell ⟨w.heap.size, 4, none⟩ (.slice A3 nv c3)) := hB3.setCell (Nat.le_refl _) _; have hown5 := hown4.other gs3 (.inr (hown4.ne_blk hbx3 (by decide))); have hown6 := hown3.other gs3 (.inr (hown3.ne_blk hbx3 (by decide))); have r0 := box_at hbx4 0 (.slice A1 nk c1) rfl; have r1 := box_at hbx4 1 (.int .i64 s) rfl; have r2 := box_at hbx4 2 (.bool g) rfl; have r3 := box_at hbx4 3 (.int .i64 u) rfl; have r4 := box_at hbx4 4 (.slice A3 nv c3) rfl; have z0 := box_at hrx4 0 (.slice none 0 0) rfl; have z1 := box_at hrx4 1 (.int .i64 0) rfl; have z2 := box_at hrx4 2 (.bool false) rfl; have z3 := box_at hrx4 3 (.int .i64 0) rfl; have z4 := box_at hrx4 4 (.slice none 0 0) rfl; have f4 := fun i => frozen_of_row _ (w.heap.size + 1) i _ _ hrx4))
  have hfin := set5 (.slice A1 nk c1) (.int .i64 s) (.bool g) (.int .i64 u) (.slice A3 nv c3) hrx4
  have hgf := grown_set5 (w3.setCell ⟨w.heap.size, 4, none⟩ (.slice A3 nv c3)) (w.heap.size + 1) (.slice A1 nk c1) (.int .i64 s) (.bool g) (.int .i64 u) (.slice A3 nv c3)
  trace_state
  refine bodyPost_ret (v := .agg #[.slice A1 nk c1, .int .i64 s, .bool g, .int .i64 u, .slice A3 nv c3]) (results_cell_row (P := Try.prog) (fn := Try.f27) (p := 2) (ty := 35) rfl _ _ (w.heap.size + 1) 35 _ (0, 0) _ rfl hfin Try.underlying35 rfl entry5) rfl ⟨_, _, rfl, ?_, ?_, ?_⟩
  · exact hown5.other hgf (.inr (hown5.ne_blk hrx4 (by decide)))
  · exact hown6.other hgf (.inr (hown6.ne_blk hrx4 (by decide)))
  · exact hB4.grown hgf hB4.size (fun k hk => by cases hk; omega)
end Go.Proofs.Ytnjhiiakpndnnaa
