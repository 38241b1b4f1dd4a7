/- Shared texts, part S04: MmI, MmJ, BkP, BkM, OI. -/
import Derived.Deep.RegionWith
import Derived.Deep.DeepCutAuto
import Derived.BigQuiet
import Derived.BigRegion
import Derived.Test.YtkkclkknpjapcaaS03
import Derived.Test.YtkkclkknpjapcaaS02
import Derived.Test.YtkkclkknpjapcaaS01
/-! ### MmI -/
namespace Go.Proofs.Ytkkclkknpjapcaa
open Go.RowKit
set_option linter.unusedVariables false
set_option linter.unusedSimpArgs false

set_option maxHeartbeats 16000000 in
theorem sameentry_any (A1 : Option Addr) (n1 c1 : Nat) (B1 : Option Addr) (m1 d1 : Nat) (A2 : Option Addr) (n2 c2 : Nat) (B2 : Option Addr) (m2 d2 : Nat) (q : Int) (g : Bool) (t : Int) (key val : List UInt8) (w : World)
    (h1 : RB w A1 n1 key) (h2 : RB w B1 m1 val) (h3 : RB w A2 n2 key) (h4 : RB w B2 m2 val) :
    Calls Try.prog 21 #[.agg #[.slice A1 n1 c1, .int .i64 q, .bool g, .int .i64 t, .slice B1 m1 d1], .agg #[.slice A2 n2 c2, .int .i64 q, .bool g, .int .i64 t, .slice B2 m2 d2]] w fun e w' => e = .returned (.bool true) ∧ Below w.heap.size w w' := by
  have k1 := fun ob ob' => RB.conv ((h1.alloc ob).alloc ob') c1
  have k2 := fun ob ob' => RB.conv ((h2.alloc ob).alloc ob') d1
  have k3 := fun ob ob' => RB.conv ((h3.alloc ob).alloc ob') c2
  have k4 := fun ob ob' => RB.conv ((h4.alloc ob).alloc ob') d2
  clear h1 h2 h3 h4
  go_enter Try.func21, Try.ntmps21
  go_wp2
  go_ret
  exact ⟨rfl, below_alloc' (below_alloc' (Below.refl _ _) _) _⟩
set_option maxHeartbeats 16000000 in
set_option maxRecDepth 100000 in
theorem sameentries_any (A1 : Option Addr) (c1 : Nat) (A2 : Option Addr) (c2 n : Nat) (L : List EntR) (w : World) (h1 : REnts w A1 n L) (h2 : REnts w A2 n L) :
    Calls Try.prog 17 #[.slice A1 n c1, .slice A2 n c2] w fun e w' => e = .returned (.bool true) ∧ Below w.heap.size w w' := by
  have hm := h1.2.1
  have H1 := hid h1
  have H2 := hid h2
  clear h1 h2
  go_enter Try.func17, Try.ntmps17
  go_wp2
  go_loopw [13] (fun i wr => ∃ k : Nat, k ≤ n ∧ i = .int .i64 k ∧ Below w.heap.size w wr) (fun i wr => n - (intOf i).toNat)
  case atStart => exact ⟨0, Nat.zero_le _, rfl, Below.refl _ _⟩
  case round =>
    obtain ⟨k, hk, rfl, hBr⟩ := hrel
    by_cases hlt : k < n
    · obtain ⟨ad1, rfl, hc1⟩ := H1.out.at_ hlt
      obtain ⟨ad2, rfl, hc2⟩ := H2.out.at_ hlt
      obtain ⟨Ak, nk, ck, Av, nv, cv, a0, a1, a2, a3, a4, a5, a6, _, _⟩ := hc1
      obtain ⟨Bk, mk, dk, Bv, mv, dv, b0, b1, b2, b3, b4, b5, b6, _, _⟩ := hc2
      generalize elt noEnt L k = x at *
      have a0 := below_cell hBr a0
      have a1 := below_cell hBr a1
      have a2 := below_cell hBr a2
      have a3 := below_cell hBr a3
      have a4 := below_cell hBr a4
      have a5 := a5.below hBr
      have a6 := a6.below hBr
      have b0 := below_cell hBr b0
      have b1 := below_cell hBr b1
      have b2 := below_cell hBr b2
      have b3 := below_cell hBr b3
      have b4 := below_cell hBr b4
      have b5 := b5.below hBr
      have b6 := b6.below hBr
      go_wp2
      apply wp_region_txt [none, none, none, none, none, none, none, none, none, none, none, none, none, none, none, none, some 0, some 1, some 2, some 3, some 4, some 5, some 6, some 7, some 8, some 9, none] [] [] [_, _, _, _, _, _, _, _, _, _] [[], [], [], [], [], [], [], [], [], []]
      case hm => rfl
      case hs => rfl
      case hst => kernel_rfl
      case hput => exact OpsOK.cons (fun _ _ => rfl) (OpsOK.cons (fun _ _ => rfl) (OpsOK.cons (fun _ _ => rfl) (OpsOK.cons (fun _ _ => rfl) (OpsOK.cons (fun _ _ => rfl) (OpsOK.cons (fun _ _ => rfl) (OpsOK.cons (fun _ _ => rfl) (OpsOK.cons (fun _ _ => rfl) (OpsOK.cons (fun _ _ => rfl) (OpsOK.cons (fun _ _ => rfl) (OpsOK.nil))))))))))
      case hops =>
        refine OpsOK.cons ?_ ?_
        · intro u W K hB hd hK
          replace hK := hk_val hK (by decide) (by rfl)
          clear hd
          simp only [lay, Act.put, List.setIfInBounds_toArray, List.set_cons_zero, List.set_cons_succ] at hK ⊢
          go_simp
          exact hK.out _ _ rfl (Below.refl _ _)
        refine OpsOK.cons ?_ ?_
        · intro u W K hB hd hK
          replace hK := hk_val hK (by decide) (by rfl)
          clear hd
          simp only [lay, Act.put, List.setIfInBounds_toArray, List.set_cons_zero, List.set_cons_succ] at hK ⊢
          go_simp
          exact hK.out _ _ rfl (Below.refl _ _)
        refine OpsOK.cons ?_ ?_
        · intro u W K hB hd hK
          have h0 := fact_val (dep_of hd 0 (by kernel_rfl) (by kernel_rfl)) (by decide)
          dsimp only [nth] at h0
          have h1 := fact_val (dep_of hd 1 (by kernel_rfl) (by kernel_rfl)) (by decide)
          dsimp only [nth] at h1
          replace hK := hk_val hK (by decide) (by rfl)
          clear hd
          simp only [lay, Act.put, List.setIfInBounds_toArray, List.set_cons_zero, List.set_cons_succ, h0, h1] at hK ⊢
          go_simp
          exact hK.out _ _ rfl (Below.refl _ _)
        refine OpsOK.cons ?_ ?_
        · intro u W K hB hd hK
          have h2 := fact_val (dep_of hd 2 (by kernel_rfl) (by kernel_rfl)) (by decide)
          dsimp only [nth] at h2
          replace hK := hk_val hK (by decide) (by rfl)
          clear hd
          simp only [lay, Act.put, List.setIfInBounds_toArray, List.set_cons_zero, List.set_cons_succ, h2] at hK ⊢
          have q0 := below_cell hB a0
          have q1 := below_cell hB a1
          have q2 := below_cell hB a2
          have q3 := below_cell hB a3
          have q4 := below_cell hB a4
          go_simp
          exact hK.out _ _ rfl (Below.refl _ _)
        refine OpsOK.cons ?_ ?_
        · intro u W K hB hd hK
          replace hK := hk_val hK (by decide) (by rfl)
          clear hd
          simp only [lay, Act.put, List.setIfInBounds_toArray, List.set_cons_zero, List.set_cons_succ] at hK ⊢
          go_simp
          exact hK.out _ _ rfl (Below.refl _ _)
        refine OpsOK.cons ?_ ?_
        · intro u W K hB hd hK
          replace hK := hk_val hK (by decide) (by rfl)
          clear hd
          simp only [lay, Act.put, List.setIfInBounds_toArray, List.set_cons_zero, List.set_cons_succ] at hK ⊢
          go_simp
          exact hK.out _ _ rfl (Below.refl _ _)
        refine OpsOK.cons ?_ ?_
        · intro u W K hB hd hK
          have h4 := fact_val (dep_of hd 4 (by kernel_rfl) (by kernel_rfl)) (by decide)
          dsimp only [nth] at h4
          have h5 := fact_val (dep_of hd 5 (by kernel_rfl) (by kernel_rfl)) (by decide)
          dsimp only [nth] at h5
          replace hK := hk_val hK (by decide) (by rfl)
          clear hd
          simp only [lay, Act.put, List.setIfInBounds_toArray, List.set_cons_zero, List.set_cons_succ, h4, h5] at hK ⊢
          go_simp
          exact hK.out _ _ rfl (Below.refl _ _)
        refine OpsOK.cons ?_ ?_
        · intro u W K hB hd hK
          have h6 := fact_val (dep_of hd 6 (by kernel_rfl) (by kernel_rfl)) (by decide)
          dsimp only [nth] at h6
          replace hK := hk_val hK (by decide) (by rfl)
          clear hd
          simp only [lay, Act.put, List.setIfInBounds_toArray, List.set_cons_zero, List.set_cons_succ, h6] at hK ⊢
          have q0 := below_cell hB b0
          have q1 := below_cell hB b1
          have q2 := below_cell hB b2
          have q3 := below_cell hB b3
          have q4 := below_cell hB b4
          go_simp
          exact hK.out _ _ rfl (Below.refl _ _)
        refine OpsOK.cons ?_ ?_
        · intro u W K hB hd hK
          have h3 := fact_val (dep_of hd 3 (by kernel_rfl) (by kernel_rfl)) (by decide)
          dsimp only [nth] at h3
          have h7 := fact_val (dep_of hd 7 (by kernel_rfl) (by kernel_rfl)) (by decide)
          dsimp only [nth] at h7
          replace hK := hk_val hK (by decide) (by rfl)
          clear hd
          simp only [lay, Act.put, List.setIfInBounds_toArray, List.set_cons_zero, List.set_cons_succ, h3, h7] at hK ⊢
          go_simp
          first
            | (go_at_call 21; (with_reducible refine (sameentry_any Ak nk ck Av nv cv Bk mk dk Bv mv dv (eSeq x) (eGone x) (eTil x) (eKey x) (eVal x) W (a5.below hB) (a6.below hB) (b5.below hB) (b6.below hB)).mono ?_); rintro e w1 ⟨rfl, hb⟩; exact hK.out _ _ rfl hb)
        refine OpsOK.cons ?_ ?_
        · intro u W K hB hd hK
          have h8 := fact_val (dep_of hd 8 (by kernel_rfl) (by kernel_rfl)) (by decide)
          dsimp only [nth] at h8
          replace hK := hk_val hK (by decide) (by rfl)
          clear hd
          simp only [lay, Act.put, List.setIfInBounds_toArray, List.set_cons_zero, List.set_cons_succ, h8] at hK ⊢
          go_simp
          exact hK.out _ _ rfl (Below.refl _ _)
        exact OpsOK.nil
      intro u W hB hf
      have h0 := fact_val (hf 0 (by decide) (by decide)) (by decide)
      dsimp only [nth] at h0
      have h1 := fact_val (hf 1 (by decide) (by decide)) (by decide)
      dsimp only [nth] at h1
      have h2 := fact_val (hf 2 (by decide) (by decide)) (by decide)
      dsimp only [nth] at h2
      have h3 := fact_val (hf 3 (by decide) (by decide)) (by decide)
      dsimp only [nth] at h3
      have h4 := fact_val (hf 4 (by decide) (by decide)) (by decide)
      dsimp only [nth] at h4
      have h5 := fact_val (hf 5 (by decide) (by decide)) (by decide)
      dsimp only [nth] at h5
      have h6 := fact_val (hf 6 (by decide) (by decide)) (by decide)
      dsimp only [nth] at h6
      have h7 := fact_val (hf 7 (by decide) (by decide)) (by decide)
      dsimp only [nth] at h7
      have h8 := fact_val (hf 8 (by decide) (by decide)) (by decide)
      dsimp only [nth] at h8
      have h9 := fact_val (hf 9 (by decide) (by decide)) (by decide)
      dsimp only [nth] at h9
      clear hf
      simp only [lay, h0, h1, h2, h3, h4, h5, h6, h7, h8, h9]
      clear h0 h1 h2 h3 h4 h5 h6 h7 h8 h9
      go_wp2
      go_roundw
      case rel => exact ⟨k + 1, by omega, by go_num, below_then hBr hB⟩
      case measure => simp [intOf]; omega
    · obtain rfl : k = n := by omega
      go_wp2
      go_ret
      exact ⟨rfl, hBr⟩
end Go.Proofs.Ytkkclkknpjapcaa
/-! ### MmJ -/
namespace Go.Proofs.Ytkkclkknpjapcaa
open Go.RowKit
set_option linter.unusedVariables false
set_option linter.unusedSimpArgs false

def aheadR (a b : EntR) : Int := if cmpB (eKey a) (eKey b) ≠ 0 then cmpB (eKey a) (eKey b) else if eSeq b < eSeq a then -1 else if eSeq a < eSeq b then 1 else 0
theorem aheadR_neg {a b : EntR} : aheadR a b < 0 ↔ aheadE a b = true := by
  rw [aheadE, aheadK_iff]
  unfold aheadR
  by_cases h : cmpB (eKey a) (eKey b) = 0
  · have hk := (cmpB_zero _ _).1 h
    rw [if_neg (by simpa using h)]
    by_cases h1 : eSeq b < eSeq a
    · rw [if_pos h1]; simp [hk, h1]
    · rw [if_neg h1]
      rw [← hk] at h
      split <;> simp [h, hk, h1]
      all_goals (rw [← hk, h]; decide)
  · rw [if_pos h]
    have hk : eKey a ≠ eKey b := fun e => h ((cmpB_zero _ _).2 e)
    simp [hk]
theorem aheadR_zero {a b : EntR} : aheadR a b = 0 ↔ eKey a = eKey b ∧ eSeq a = eSeq b := by
  unfold aheadR
  by_cases h : cmpB (eKey a) (eKey b) = 0
  · have hk := (cmpB_zero _ _).1 h
    rw [if_neg (by simpa using h)]
    by_cases h1 : eSeq b < eSeq a
    · rw [if_pos h1]; simp; omega
    · rw [if_neg h1]
      by_cases h2 : eSeq a < eSeq b
      · rw [if_pos h2]; simp; omega
      · rw [if_neg h2]; simp [hk]; omega
  · rw [if_pos h]
    have hk : eKey a ≠ eKey b := fun e => h ((cmpB_zero _ _).2 e)
    simp [hk, h]
theorem ret_i64 {a b : Int} (h : a = b) : Ending.returned (.int .i64 a) = .returned (.int .i64 b) := by rw [h]
set_option maxHeartbeats 8000000 in
theorem refahead_any (Ak : Option Addr) (nk ck : Nat) (Av : Option Addr) (nv cv : Nat) (a : EntR) (Bk : Option Addr) (mk dk : Nat) (Bv : Option Addr) (mv dv : Nat) (b : EntR) (w : World) (h1 : RB w Ak nk (eKey a)) (h2 : RB w Bk mk (eKey b)) :
    Calls Try.prog 65 #[.agg #[.slice Ak nk ck, .int .i64 (eSeq a), .bool (eGone a), .int .i64 (eTil a), .slice Av nv cv], .agg #[.slice Bk mk dk, .int .i64 (eSeq b), .bool (eGone b), .int .i64 (eTil b), .slice Bv mv dv]] w
      fun r w' => r = .returned (.int .i64 (aheadR a b)) ∧ Below w.heap.size w w' := by
  obtain ⟨C, hC⟩ : ∃ C, cmpB (eKey a) (eKey b) = C := ⟨_, rfl⟩
  have HA : Hid (aheadR a b = if C ≠ 0 then C else if eSeq b < eSeq a then -1 else if eSeq a < eSeq b then 1 else 0) := by unfold Hid aheadR; rw [hC]
  have hba := heap_alloc_new w (.cells #[.slice Ak nk ck, .int .i64 (eSeq a), .bool (eGone a), .int .i64 (eTil a), .slice Av nv cv] 42)
  have hbb := heap_alloc_new (w.alloc (.cells #[.slice Ak nk ck, .int .i64 (eSeq a), .bool (eGone a), .int .i64 (eTil a), .slice Av nv cv] 42)) (.cells #[.slice Bk mk dk, .int .i64 (eSeq b), .bool (eGone b), .int .i64 (eTil b), .slice Bv mv dv] 42)
  have e0 : (w.alloc (.cells #[.slice Ak nk ck, .int .i64 (eSeq a), .bool (eGone a), .int .i64 (eTil a), .slice Av nv cv] 42)).heap.size = w.heap.size + 1 := by simp
  rw [e0] at hbb
  have hB : Below w.heap.size w ((w.alloc (.cells #[.slice Ak nk ck, .int .i64 (eSeq a), .bool (eGone a), .int .i64 (eTil a), .slice Av nv cv] 42)).alloc (.cells #[.slice Bk mk dk, .int .i64 (eSeq b), .bool (eGone b), .int .i64 (eTil b), .slice Bv mv dv] 42)) := below_alloc' (below_alloc' (Below.refl _ _) _) _
  have hba := blk_below (below_alloc' (Below.refl _ _) (.cells #[.slice Bk mk dk, .int .i64 (eSeq b), .bool (eGone b), .int .i64 (eTil b), .slice Bv mv dv] 42)) hba
  have H1 := hid (h1.below hB)
  have H2 := hid (h2.below hB)
  have HC := hid hC
  clear h1 h2 hC
  go_enter Try.func65, Try.ntmps65
  go_wp2_with (go_at_call 24; (with_reducible refine (refcompare_any Ak nk ck (eKey a) Bk mk dk (eKey b) _ H1.out H2.out).mono ?_); rintro r w1 ⟨rfl, hb1⟩; rw [HC.out]; have hB1 := below_then hB hb1; have a1 := box_at (blk_below hb1 hba) 1 (.int .i64 (eSeq a)) rfl; have b1 := box_at (blk_below hb1 hbb) 1 (.int .i64 (eSeq b)) rfl)
  all_goals
    go_ret
    refine ⟨?_, hB1⟩
    rw [HA.out]
    refine ret_i64 ?_
    try simp only [beq_iff_eq, beq_eq_false_iff_ne, bne_iff_ne, bne_eq_false_iff_eq, decide_eq_true_eq, decide_eq_false_iff_not] at *
    first
    | rfl
    | (simp_all; done)
    | ((repeat' split) <;> omega)
    | trace_state
theorem elt_mem' {es : List EntR} {k : Nat} (h : k < es.length) : elt noEnt es k ∈ es := elt_mem h
/-- In order, by neighbours. -/
def ordN (es : List EntR) (k : Nat) : Prop := ∀ i, 1 ≤ i → i < k → aheadE (elt noEnt es (i - 1)) (elt noEnt es i) = true
theorem Srt.at_ {es : List EntR} (h : Srt es) : ∀ i j, i < j → j < es.length → aheadE (elt noEnt es i) (elt noEnt es j) = true := by
  induction es with
  | nil => intro i j _ hj; simp at hj
  | cons x l ih =>
    intro i j hij hj
    obtain ⟨j', rfl⟩ : ∃ j', j = j' + 1 := ⟨j - 1, by omega⟩
    have e : elt noEnt (x :: l) (j' + 1) = elt noEnt l j' := by simp [elt]
    rw [e]
    have hj' : j' < l.length := by simpa using hj
    cases i with
    | zero =>
      have e0 : elt noEnt (x :: l) 0 = x := by simp [elt]
      rw [e0]
      exact h.1 _ (elt_mem hj')
    | succ i =>
      have e1 : elt noEnt (x :: l) (i + 1) = elt noEnt l i := by simp [elt]
      rw [e1]
      exact ih h.2 i j' (by omega) hj'
theorem Srt_ordN {es : List EntR} (h : Srt es) : ordN es es.length := fun i h1 h2 => h.at_ (i - 1) i (by omega) h2
theorem ordN_Srt {es : List EntR} (h : ordN es es.length) : Srt es := by
  induction es with
  | nil => trivial
  | cons x l ih =>
    have hl : Srt l := ih fun i h1 h2 => by
      have := h (i + 1) (by omega) (by simp; omega)
      have e1 : elt noEnt (x :: l) (i + 1) = elt noEnt l i := by simp [elt]
      have e2 : elt noEnt (x :: l) (i + 1 - 1) = elt noEnt l (i - 1) := by
        obtain ⟨i', rfl⟩ : ∃ i', i = i' + 1 := ⟨i - 1, by omega⟩
        simp [elt]
      rwa [e1, e2] at this
    refine ⟨fun y hy => ?_, hl⟩
    cases l with
    | nil => cases hy
    | cons z m =>
      have hz := h 1 (by omega) (by simp)
      have e1 : elt noEnt (x :: z :: m) 1 = z := by simp [elt]
      have e0 : elt noEnt (x :: z :: m) (1 - 1) = x := by simp [elt]
      rw [e0, e1] at hz
      rcases List.mem_cons.1 hy with rfl | hy
      · exact hz
      · exact ahead_trans hz (hl.1 y hy)
noncomputable def srtB (es : List EntR) : Bool := @decide (Srt es) (Classical.propDecidable _)
theorem srtB_true {es : List EntR} (h : Srt es) : srtB es = true := by unfold srtB; simpa using h
theorem srtB_false {es : List EntR} (h : ¬ Srt es) : srtB es = false := by unfold srtB; simpa using h
set_option maxHeartbeats 16000000 in
set_option maxRecDepth 100000 in
theorem refordered_any (A : Option Addr) (n c : Nat) (es : List EntR) (w : World) (h : REnts w A n es) :
    Calls Try.prog 31 #[.slice A n c] w fun e w' => e = .returned (.bool (srtB es)) ∧ Below w.heap.size w w' := by
  have hl := h.1
  have hm := h.2.1
  have HS : Hid (∀ k, n ≤ k → ordN es k → srtB es = true) := fun k hk ho => srtB_true (ordN_Srt fun i h1 h2 => ho i h1 (by omega))
  have HN : Hid (∀ k, 1 ≤ k → k < n → aheadE (elt noEnt es (k - 1)) (elt noEnt es k) = false → srtB es = false) := fun k h1 h2 h3 => srtB_false fun hs => by
    rw [hs.at_ (k - 1) k (by omega) (by omega)] at h3
    cases h3
  have H := hid h
  clear h hl
  go_enter Try.func31, Try.ntmps31
  go_wp2
  go_loopw [3] (fun i wr => ∃ k : Nat, 1 ≤ k ∧ i = .int .i64 k ∧ ordN es k ∧ Below w.heap.size w wr) (fun i wr => n - (intOf i).toNat)
  case atStart => exact ⟨1, by omega, rfl, fun i h1 h2 => by omega, Below.refl _ _⟩
  case round =>
    obtain ⟨k, hk, rfl, ho, hBr⟩ := hrel
    by_cases hlt : k < n
    · obtain ⟨ad, rfl, hc1⟩ := (H.out.below hBr).at_ (show k - 1 < n by omega)
      obtain ⟨ad2, hae, hc2⟩ := (H.out.below hBr).at_ hlt
      obtain rfl := Option.some.inj hae
      obtain ⟨j, hj⟩ : ∃ j, k - 1 = j := ⟨_, rfl⟩
      have hkm : (k : Int) - 1 = (j : Int) := by omega
      have hws : IntKind.i64.wrap (j : Int) = (j : Int) := by rw [IntKind.wrap_i64]; omega
      have hjn : j < n := by omega
      have HO := hid ho
      have HNk := hid (HN.out k hk hlt)
      have HOk : Hid (aheadE (elt noEnt es (k - 1)) (elt noEnt es k) = true → ordN es (k + 1)) := by
        intro h3 i h1 h2
        rcases Nat.lt_or_ge i k with h4 | h4
        · exact ho i h1 h4
        · obtain rfl : i = k := by omega
          exact h3
      rw [hj] at hc1 HNk HOk
      obtain ⟨Ak, nk, ck, Av, nv, cv, a0, a1, a2, a3, a4, a5, _, _, _⟩ := hc1
      obtain ⟨Bk, mk, dk, Bv, mv, dv, b0, b1, b2, b3, b4, b5, _, _, _⟩ := hc2
      generalize elt noEnt es j = x at *
      generalize elt noEnt es k = y at *
      have A5 := hid a5
      have B5 := hid b5
      clear ho hae hj a5 b5
      obtain ⟨C, hC⟩ : ∃ C, aheadR x y = C := ⟨_, rfl⟩
      have HC := hid hC
      clear hC
      by_cases hC0 : 0 ≤ C
      · have HD := hid (decide_eq_true hC0)
        have hf : srtB es = false := HNk.out (by
          have := HC.out
          cases hq : aheadE x y
          · rfl
          · rw [← aheadR_neg] at hq; omega)
        have HF := hid hf
        clear hf hC0
        go_wp2
        go_cut [3, 20] (fun x3 v wx => x3 = .int .i64 (k : Int) ∧ v = .bool true ∧ Below w.heap.size w wx)
        case first =>
          go_region_with (go_at_call 65; (with_reducible refine (refahead_any Ak nk ck Av nv cv x Bk mk dk Bv mv dv y _ A5.out.drew B5.out.drew).mono ?_); rintro r w1 ⟨rfl, hb1⟩; rw [HC.out])
          all_goals
            go_wp2
            go_meet
            exact ⟨rfl, by rw [HD.out], below_then hBr (below_then (below_drew (Below.refl _ _)) hb1)⟩
        case rest =>
          obtain ⟨rfl, rfl, hB3⟩ := hcut
          go_wp2
          go_ret
          exact ⟨by rw [HF.out]; rfl, hB3⟩
      · have HD := hid (decide_eq_false hC0)
        have ho2 : ordN es (k + 1) := HOk.out (by rw [← aheadR_neg, HC.out]; omega)
        have HO2 := hid ho2
        clear ho2 hC0
        go_wp2
        go_cut [3, 20] (fun x3 v wx => x3 = .int .i64 (k : Int) ∧ v = .bool false ∧ Below w.heap.size w wx)
        case first =>
          go_region_with (go_at_call 65; (with_reducible refine (refahead_any Ak nk ck Av nv cv x Bk mk dk Bv mv dv y _ A5.out.drew B5.out.drew).mono ?_); rintro r w1 ⟨rfl, hb1⟩; rw [HC.out])
          all_goals
            go_wp2
            go_meet
            exact ⟨rfl, by rw [HD.out], below_then hBr (below_then (below_drew (Below.refl _ _)) hb1)⟩
        case rest =>
          obtain ⟨rfl, rfl, hB3⟩ := hcut
          go_wp2
          go_roundw
          case rel => exact ⟨k + 1, by omega, by go_num, HO2.out, hB3⟩
          case measure => simp [intOf]; omega
    · go_wp2
      go_ret
      exact ⟨by rw [HS.out k (by omega) ho]; rfl, hBr⟩
end Go.Proofs.Ytkkclkknpjapcaa
/-! ### BkP -/
namespace Go.Proofs.Ytkkclkknpjapcaa
open Go.RowKit
set_option linter.unusedVariables false
set_option linter.unusedSimpArgs false

/-- How many bytes two keys have in common at their front. -/
def cmnB : List UInt8 → List UInt8 → Nat
  | x :: xs, y :: ys => if x = y then cmnB xs ys + 1 else 0
  | _, _ => 0
theorem cmnB_le : ∀ (xs ys : List UInt8), cmnB xs ys ≤ xs.length ∧ cmnB xs ys ≤ ys.length := by
  intro xs
  induction xs with
  | nil => intro ys; simp [cmnB]
  | cons x xs ih =>
    intro ys
    cases ys with
    | nil => simp [cmnB]
    | cons y ys =>
      unfold cmnB
      split
      · have := ih ys; simp only [List.length_cons]; omega
      · simp
theorem cmnB_take : ∀ (xs ys : List UInt8), xs.take (cmnB xs ys) = ys.take (cmnB xs ys) := by
  intro xs
  induction xs with
  | nil => intro ys; simp [cmnB]
  | cons x xs ih =>
    intro ys
    cases ys with
    | nil => simp [cmnB]
    | cons y ys =>
      unfold cmnB
      split
      · rename_i h; rw [List.take_succ_cons, List.take_succ_cons, h, ih ys]
      · simp
theorem cmnB_is : ∀ (xs ys : List UInt8) (k : Nat), k ≤ xs.length → k ≤ ys.length → (∀ j, j < k → bAt xs j = bAt ys j) → (k = xs.length ∨ k = ys.length ∨ bAt xs k ≠ bAt ys k) → cmnB xs ys = k := by
  intro xs
  induction xs with
  | nil => intro ys k h1 h2 h3 h4; simp at h1; subst h1; simp [cmnB]
  | cons x xs ih =>
    intro ys k h1 h2 h3 h4
    cases ys with
    | nil => simp at h2; subst h2; simp [cmnB]
    | cons y ys =>
      cases k with
      | zero =>
        unfold cmnB
        rcases h4 with h4 | h4 | h4
        · simp at h4
        · simp at h4
        · rw [if_neg]
          intro e
          subst e
          exact h4 rfl
      | succ k =>
        have h0 : x = y := UInt8.toNat_inj.1 (h3 0 (by omega))
        unfold cmnB
        rw [if_pos h0, ih ys k (by simpa using h1) (by simpa using h2) (fun j hj => h3 (j + 1) (by omega)) (by
          rcases h4 with h4 | h4 | h4
          · exact .inl (by simpa using h4)
          · exact .inr (.inl (by simpa using h4))
          · exact .inr (.inr h4))]
/-- What an entry takes of the key ahead of it. -/
def shN (es : List EntR) (k : Nat) : Nat := if k % 8 = 0 then 0 else cmnB (eKey (elt noEnt es (k - 1))) (eKey (elt noEnt es k))
theorem shN_le (es : List EntR) (k : Nat) : shN es k ≤ (eKey (elt noEnt es k)).length := by
  unfold shN
  split
  · omega
  · exact (cmnB_le _ _).2
def bkHead (n : Nat) (e : EntR) (L : List UInt8) : List UInt8 := (((L ++ uvar n) ++ uvar ((eKey e).length - n)) ++ (eKey e).drop n) ++ uvar (eSeq e).toNat
def bkTail (e : EntR) (L : List UInt8) : List UInt8 :=
  match eGone e with
  | true => L ++ [1]
  | false => ((L ++ [0]) ++ uvar (eTil e).toNat) ++ uvar (eVal e).length ++ eVal e
/-- The bytes of the first entries. -/
def accK (es : List EntR) : Nat → List UInt8
  | 0 => []
  | k + 1 => bkTail (elt noEnt es k) (bkHead (shN es k) (elt noEnt es k) (accK es k))
/-- Where the entries stand whose keys stand whole. -/
def stK (es : List EntR) : Nat → List Int
  | 0 => []
  | k + 1 => if k % 8 = 0 then stK es k ++ [((accK es k).length : Int)] else stK es k
def fixK (L : List UInt8) (st : List Int) : Nat → List UInt8
  | 0 => L
  | j + 1 => fixK L st j ++ fixB (elt 0 st j).toNat 4
/-- A block's bytes. -/
def encK (es : List EntR) : List UInt8 := fixK (accK es es.length) (stK es es.length) (stK es es.length).length ++ fixB (stK es es.length).length 4
def AllM (es : List EntR) : Prop := ∀ j, j < es.length → mayE (elt noEnt es j) = true
theorem bk_len (n : Nat) (e : EntR) (L : List UInt8) (h : mayE e = true) : (bkTail e (bkHead n e L)).length ≤ L.length + 2700 := by
  obtain ⟨_, h1, h2, _⟩ := mayE_cases h
  have e1 := uvar_len n
  have e2 := uvar_len ((eKey e).length - n)
  have e3 := uvar_len (eSeq e).toNat
  have e4 := uvar_len (eTil e).toNat
  have e5 := uvar_len (eVal e).length
  unfold bkTail bkHead
  split <;> simp only [List.length_append, List.length_singleton, List.length_drop] <;> omega
theorem accK_len {es : List EntR} (h : AllM es) : ∀ k, k ≤ es.length → (accK es k).length ≤ k * 2700 := by
  intro k
  induction k with
  | zero => intro _; simp [accK]
  | succ k ih =>
    intro hk
    have h1 := ih (by omega)
    have h2 := bk_len (shN es k) (elt noEnt es k) (accK es k) (h k (by omega))
    rw [accK]
    omega
theorem stK_len (es : List EntR) : ∀ k, (stK es k).length = (k + 7) / 8 := by
  intro k
  induction k with
  | zero => simp [stK]
  | succ k ih =>
    rw [stK]
    split
    · rw [List.length_append, ih, List.length_singleton]; omega
    · rw [ih]; omega
theorem fix4_len (g : Nat) : (fixB g 4).length = 4 := by
  unfold fixB
  rw [if_neg (by omega), fixedU_len]
  rfl
theorem fixK_len (L : List UInt8) (st : List Int) : ∀ j, (fixK L st j).length = L.length + 4 * j := by
  intro j
  induction j with
  | zero => simp [fixK]
  | succ j ih => rw [fixK, List.length_append, ih, fix4_len]; omega
theorem fixK_pre (L : List UInt8) (st : List Int) : ∀ j, ∃ F, fixK L st j = L ++ F ∧ F.length = 4 * j := by
  intro j
  induction j with
  | zero => exact ⟨[], by simp [fixK], rfl⟩
  | succ j ih =>
    obtain ⟨F, h1, h2⟩ := ih
    exact ⟨F ++ fixB (elt 0 st j).toNat 4, by rw [fixK, h1, List.append_assoc], by rw [List.length_append, h2, fix4_len]; omega⟩
/-! ## Read again -/
/-- A key read: the key, what is left. -/
def keyK (xs last : List UInt8) : Option (List UInt8 × List UInt8) :=
  if (takeU xs).2.2 ≠ 0 then none
  else if last.length < (takeU xs).1 then none
  else if (takeU (xs.drop (takeU xs).2.1)).2.2 ≠ 0 then none
  else if 512 - (takeU xs).1 < (takeU (xs.drop (takeU xs).2.1)).1 then none
  else if ((xs.drop (takeU xs).2.1).drop (takeU (xs.drop (takeU xs).2.1)).2.1).length < (takeU (xs.drop (takeU xs).2.1)).1 then none
  else some (last.take (takeU xs).1 ++ ((xs.drop (takeU xs).2.1).drop (takeU (xs.drop (takeU xs).2.1)).2.1).take (takeU (xs.drop (takeU xs).2.1)).1,
    ((xs.drop (takeU xs).2.1).drop (takeU (xs.drop (takeU xs).2.1)).2.1).drop (takeU (xs.drop (takeU xs).2.1)).1)
/-- What stands behind the flag of an entry that is there. -/
def valK (key : List UInt8) (s : Int) (xs : List UInt8) : Option (EntR × List UInt8) :=
  if (takeU xs).2.2 ≠ 0 then none
  else if (takeB (xs.drop (takeU xs).2.1) 2048).2.2 ≠ 0 then none
  else some (mkEnt key s false (wrap64 (takeU xs).1) (takeB (xs.drop (takeU xs).2.1) 2048).1, (xs.drop (takeU xs).2.1).drop (takeB (xs.drop (takeU xs).2.1) 2048).2.1)
/-- What stands behind an entry's number. -/
def flagK (key : List UInt8) (s : Int) : List UInt8 → Option (EntR × List UInt8)
  | [] => none
  | f :: r => if 1 < f.toNat then none else if f.toNat = 1 then some (mkEnt key s true 0 [], r) else valK key s r
/-- What stands behind an entry's key. -/
def seqK (key xs : List UInt8) : Option (EntR × List UInt8) :=
  if (takeU xs).2.2 ≠ 0 then none else flagK key (wrap64 (takeU xs).1) (xs.drop (takeU xs).2.1)
def entK (xs last : List UInt8) : Option (EntR × List UInt8) :=
  match keyK xs last with
  | none => none
  | some (key, r) => seqK key r
def decL : Nat → List UInt8 → List UInt8 → Option (List EntR)
  | 0, _, _ => none
  | f + 1, xs, last =>
    if xs = [] then some []
    else match entK xs last with
      | none => none
      | some (e, r) => (decL f r (eKey e)).map (e :: ·)
/-- What a block's bytes must meet: how many, each may be, in order. -/
def FitK (es : List EntR) : Prop := 1 ≤ es.length ∧ es.length ≤ 400 ∧ AllM es ∧ Srt es
noncomputable def fitB (es : List EntR) : Bool := decide (1 ≤ es.length) && decide (es.length ≤ 400) && es.all mayE && srtB es
theorem fitB_iff (es : List EntR) : fitB es = true ↔ FitK es := by
  unfold fitB FitK
  simp only [Bool.and_eq_true, decide_eq_true_iff, List.all_eq_true]
  constructor
  · rintro ⟨⟨⟨h1, h2⟩, h3⟩, h4⟩
    refine ⟨h1, h2, fun j hj => h3 _ (elt_mem hj), Classical.byContradiction fun hn => ?_⟩
    rw [srtB_false hn] at h4
    cases h4
  · rintro ⟨h1, h2, h3, h4⟩
    refine ⟨⟨⟨h1, h2⟩, fun x hx => ?_⟩, srtB_true h4⟩
    obtain ⟨j, hj, rfl⟩ := List.getElem_of_mem hx
    have := h3 j hj
    rw [elt_get noEnt hj] at this
    exact this
noncomputable def decF (b : List UInt8) : Option (List EntR) :=
  if b.length < 4 then none
  else if readU (b.drop (b.length - 4)) = 0 ∨ (b.length - 4) / 4 < readU (b.drop (b.length - 4)) then none
  else match decL (b.length + 1) (b.take (b.length - 4 - 4 * readU (b.drop (b.length - 4)))) [] with
    | none => none
    | some es => if fitB es = true ∧ encK es = b then some es else none
theorem decF_some {b : List UInt8} {es : List EntR} (h : decF b = some es) : FitK es ∧ encK es = b := by
  unfold decF at h
  split at h
  · cases h
  · split at h
    · cases h
    · split at h
      · cases h
      · split at h
        · rename_i h2; cases h; exact ⟨(fitB_iff _).1 h2.1, h2.2⟩
        · cases h
theorem takeB_put' (s r : List UInt8) (most : Int) (hs : s.length < 18446744073709551616) (hm : (s.length : Int) ≤ most) : takeB (uvar s.length ++ (s ++ r)) most = (s, (uvar s.length).length + s.length, 0) := by
  unfold takeB
  rw [takeU_uvar hs]
  simp only [ne_eq, not_true_eq_false, if_false]
  rw [if_neg (by omega), if_neg (by simp only [List.length_append]; omega), List.drop_left, List.take_left]
theorem drop_app {α : Type} (a b : List α) : (a ++ b).drop a.length = b := by simp
theorem take_app {α : Type} (a b : List α) : (a ++ b).take a.length = a := by simp
/-- An entry's bytes. -/
def entB (n : Nat) (e : EntR) : List UInt8 := bkTail e (bkHead n e [])
theorem bk_app (n : Nat) (e : EntR) (L : List UInt8) : bkTail e (bkHead n e L) = L ++ entB n e := by
  unfold entB bkTail bkHead
  split <;> simp [List.append_assoc]
theorem keyK_put {n : Nat} {key last r : List UInt8} (hn : n ≤ last.length) (hk : n ≤ key.length) (ht : last.take n = key.take n) (hl : key.length ≤ 512) :
    keyK (uvar n ++ (uvar (key.length - n) ++ (key.drop n ++ r))) last = some (key, r) := by
  have h1 := takeU_uvar (g := n) (by omega) (uvar (key.length - n) ++ (key.drop n ++ r))
  have h2 := takeU_uvar (g := key.length - n) (by omega) (key.drop n ++ r)
  unfold keyK
  rw [h1]
  simp only [drop_app, h2]
  rw [if_neg (by omega), if_neg (by omega), if_neg (by omega), if_neg (by omega), if_neg (by simp)]
  have e1 : (key.drop n ++ r).take (key.length - n) = key.drop n := by rw [← List.length_drop]; exact take_app _ _
  have e2 : (key.drop n ++ r).drop (key.length - n) = r := by rw [← List.length_drop]; exact drop_app _ _
  rw [e1, e2, ht, List.take_append_drop]
theorem mayE_more {e : EntR} (h : mayE e = true) : 0 ≤ eTil e ∧ eTil e ≤ 4611686018427387904 ∧ (eGone e = false ∨ (eTil e = 0 ∧ (eVal e).length = 0)) := by
  unfold mayE mayN at h
  rw [decide_eq_true_iff] at h
  exact ⟨h.2.2.2.2.2.1, h.2.2.2.2.2.2.1, h.2.2.2.2.2.2.2⟩
theorem wrap_nat {z : Int} (h0 : 0 ≤ z) (h1 : z ≤ 4611686018427387904) : wrap64 (z.toNat : Int) = z := by
  unfold wrap64
  omega
theorem entK_put {n : Nat} {e : EntR} {last r : List UInt8} (hm : mayE e = true) (hn : n ≤ last.length) (hk : n ≤ (eKey e).length) (ht : last.take n = (eKey e).take n) : entK (entB n e ++ r) last = some (e, r) := by
  obtain ⟨m1, m2, m3, m4, m5⟩ := mayE_cases hm
  obtain ⟨m6, m7, m8⟩ := mayE_more hm
  obtain ⟨key, s, g, t, v⟩ := e
  change 1 ≤ key.length at m1
  change key.length ≤ 512 at m2
  change v.length ≤ 2048 at m3
  change 1 ≤ s at m4
  change s ≤ _ at m5
  change 0 ≤ t at m6
  change t ≤ _ at m7
  change n ≤ key.length at hk
  change last.take n = key.take n at ht
  have hs := takeU_uvar (g := s.toNat) (by omega)
  have hs2 := wrap_nat (z := s) (by omega) m5
  cases g
  · have e1 : entB n (key, s, false, t, v) ++ r = uvar n ++ (uvar (key.length - n) ++ (key.drop n ++ (uvar s.toNat ++ (0 :: (uvar t.toNat ++ (uvar v.length ++ (v ++ r))))))) := by
      simp [entB, bkTail, bkHead, eKey, eSeq, eGone, eTil, eVal, List.append_assoc]
    rw [e1]
    unfold entK
    rw [keyK_put hn hk ht m2]
    have ht1 := takeU_uvar (g := t.toNat) (by omega) (uvar v.length ++ (v ++ r))
    have hv := takeB_put' v r 2048 (by omega) (by omega)
    have ht2 := wrap_nat (z := t) m6 m7
    simp only [seqK, hs, drop_app, hs2, flagK]
    rw [if_neg (by simp), if_neg (by simp), if_neg (by simp)]
    unfold valK
    simp only [ht1, drop_app, hv, ht2]
    rw [if_neg (by simp), if_neg (by simp), ← List.append_assoc, ← List.length_append, drop_app]
    rfl
  · have h2 : t = 0 ∧ v.length = 0 := by
      rcases m8 with h | h
      · cases h
      · exact h
    obtain ⟨rfl, hv⟩ := h2
    obtain rfl : v = [] := List.eq_nil_of_length_eq_zero hv
    have e1 : entB n (key, s, true, 0, []) ++ r = uvar n ++ (uvar (key.length - n) ++ (key.drop n ++ (uvar s.toNat ++ (1 :: r)))) := by
      simp [entB, bkTail, bkHead, eKey, eSeq, eGone, eTil, eVal, List.append_assoc]
    rw [e1]
    unfold entK
    rw [keyK_put hn hk ht m2]
    simp only [seqK, hs, drop_app, hs2, flagK]
    rw [if_neg (by simp), if_neg (by simp), if_pos (by simp)]
    rfl
/-- The bytes of so many entries from the k-th on. -/
def restB (es : List EntR) (k : Nat) : Nat → List UInt8
  | 0 => []
  | m + 1 => entB (shN es k) (elt noEnt es k) ++ restB es (k + 1) m
theorem accK_rest (es : List EntR) : ∀ m k, accK es (k + m) = accK es k ++ restB es k m := by
  intro m
  induction m with
  | zero => intro k; simp [restB]
  | succ m ih =>
    intro k
    rw [show k + (m + 1) = (k + 1) + m by omega, ih (k + 1), accK, bk_app, restB, List.append_assoc]
def lastK' (es : List EntR) (k : Nat) : List UInt8 := if k = 0 then [] else eKey (elt noEnt es (k - 1))
theorem entB_pos (n : Nat) (e : EntR) : 0 < (entB n e).length := by
  have := uvar_pos n
  unfold entB bkTail bkHead
  split <;> simp only [List.length_append, List.length_singleton, List.length_nil] <;> omega
theorem decL_rest {es : List EntR} (h : AllM es) : ∀ m k f, k + m = es.length → (restB es k m).length < f → decL f (restB es k m) (lastK' es k) = some (es.drop k) := by
  intro m
  induction m with
  | zero =>
    intro k f hk hf
    cases f with
    | zero => omega
    | succ f =>
      rw [restB, decL, if_pos rfl, List.drop_eq_nil_of_le (by omega)]
  | succ m ih =>
    intro k f hk hf
    cases f with
    | zero => omega
    | succ f =>
      have hp := entB_pos (shN es k) (elt noEnt es k)
      rw [restB] at hf ⊢
      rw [List.length_append] at hf
      rw [decL, if_neg (by intro e; have := congrArg List.length e; simp at this; rw [this.1] at hp; simp at hp)]
      have hsh : shN es k ≤ (lastK' es k).length ∧ (lastK' es k).take (shN es k) = (eKey (elt noEnt es k)).take (shN es k) := by
        unfold shN lastK'
        split
        · simp
        · rename_i h8
          rw [if_neg (by intro e; subst e; simp at h8)]
          exact ⟨(cmnB_le _ _).1, cmnB_take _ _⟩
      rw [entK_put (h k (by omega)) hsh.1 (shN_le es k) hsh.2]
      have hl : lastK' es (k + 1) = eKey (elt noEnt es k) := by unfold lastK'; rw [if_neg (by omega)]; rfl
      have hi := ih (k + 1) f (by omega) (by omega)
      rw [hl] at hi
      show (decL f (restB es (k + 1) m) (eKey (elt noEnt es k))).map _ = _
      rw [hi, drop_elt (show k < es.length by omega)]
      rfl
theorem decF_enc {es : List EntR} (h : FitK es) : decF (encK es) = some es := by
  obtain ⟨h1, h2, h3, h4⟩ := h
  obtain ⟨F, hF, hFl⟩ := fixK_pre (accK es es.length) (stK es es.length) (stK es es.length).length
  have hsl := stK_len es es.length
  obtain ⟨c, hc⟩ : ∃ c, (stK es es.length).length = c := ⟨_, rfl⟩
  have hc1 : 1 ≤ c ∧ c ≤ 60 := by omega
  have hb : encK es = (accK es es.length ++ F) ++ fixB c 4 := by unfold encK; rw [hF, hc]
  rw [hc] at hFl
  have hA := accK_rest es es.length 0
  rw [Nat.zero_add, accK, List.nil_append] at hA
  have hlen : (encK es).length = (accK es es.length).length + 4 * c + 4 := by rw [hb]; simp only [List.length_append, fix4_len, hFl]
  have hd : (encK es).drop ((encK es).length - 4) = fixB c 4 := by
    rw [hlen, hb]
    have : (accK es es.length).length + 4 * c + 4 - 4 = (accK es es.length ++ F).length := by rw [List.length_append, hFl]; omega
    rw [this, drop_app]
  have hr : readU (fixB c 4) = c := by
    unfold fixB
    rw [if_neg (by omega)]
    show readU (fixedU c 4) = c
    rw [fixed_read, Nat.mod_eq_of_lt (by omega)]
  have ht : (encK es).take ((encK es).length - 4 - 4 * c) = accK es es.length := by
    rw [hlen, hb, show (accK es es.length).length + 4 * c + 4 - 4 - 4 * c = (accK es es.length).length by omega, List.append_assoc, take_app]
  have hdl := decL_rest h3 es.length 0 ((encK es).length + 1) (by omega) (by rw [← hA]; omega)
  unfold decF
  rw [if_neg (by omega), hd, hr, if_neg (by omega), ht, hA]
  rw [show lastK' es 0 = [] from rfl] at hdl
  rw [hdl]
  show (if fitB (es.drop 0) = true ∧ encK (es.drop 0) = encK es then some (es.drop 0) else none) = some es
  rw [List.drop_zero, if_pos ⟨(fitB_iff es).2 ⟨h1, h2, h3, h4⟩, rfl⟩]
end Go.Proofs.Ytkkclkknpjapcaa
/-! ### BkM -/
namespace Go.Proofs.Ytkkclkknpjapcaa
open Go.RowKit
set_option linter.unusedVariables false
set_option linter.unusedSimpArgs false

set_option maxHeartbeats 16000000 in
set_option maxRecDepth 100000 in
theorem bkmay_any (Ak : Option Addr) (nk ck : Nat) (s : Int) (g : Bool) (u : Int) (Av : Option Addr) (nv cv : Nat) (w : World) (hk : nk ≤ 9223372036854775807) (hv : nv ≤ 9223372036854775807) :
    Calls Try.prog 67 #[.agg #[.slice Ak nk ck, .int .i64 s, .bool g, .int .i64 u, .slice Av nv cv]] w fun e w' => e = .returned (.bool (mayN nk s g u nv)) ∧ Below w.heap.size w w' := by
  cases g
  all_goals
    go_enter Try.func67, Try.ntmps67
    go_wp2
    all_goals
      go_ret
      refine ⟨ret_bool ?_, below_alloc' (Below.refl _ _) _⟩
      try simp only [beq_iff_eq, beq_eq_false_iff_ne] at *
      unfold mayN
      first
      | rfl
      | (rw [eq_comm, decide_eq_false_iff_not]; simp; omega)
      | (rw [eq_comm, decide_eq_true_iff]; simp; omega)
      | (rw [decide_eq_decide]; simp; omega)
      | (rw [Bool.eq_iff_iff]; simp; omega)
      | (trace_state; simp; omega)
set_option maxHeartbeats 16000000 in
set_option maxRecDepth 100000 in
theorem bkordered_any (A : Option Addr) (n c : Nat) (es : List EntR) (w : World) (h : REnts w A n es) :
    Calls Try.prog 66 #[.slice A n c] w fun e w' => e = .returned (.bool (srtB es)) ∧ Below w.heap.size w w' := by
  have hl := h.1
  have hm := h.2.1
  have HS : Hid (∀ k, n ≤ k → ordN es k → srtB es = true) := fun k hk ho => srtB_true (ordN_Srt fun i h1 h2 => ho i h1 (by omega))
  have HN : Hid (∀ k, 1 ≤ k → k < n → aheadE (elt noEnt es (k - 1)) (elt noEnt es k) = false → srtB es = false) := fun k h1 h2 h3 => srtB_false fun hs => by
    rw [hs.at_ (k - 1) k (by omega) (by omega)] at h3
    cases h3
  have H := hid h
  clear h hl
  go_enter Try.func66, Try.ntmps66
  go_wp2
  go_loopw [3] (fun i wr => ∃ k : Nat, 1 ≤ k ∧ i = .int .i64 k ∧ ordN es k ∧ Below w.heap.size w wr) (fun i wr => n - (intOf i).toNat)
  case atStart => exact ⟨1, by omega, rfl, fun i h1 h2 => by omega, Below.refl _ _⟩
  case round =>
    obtain ⟨k, hk, rfl, ho, hBr⟩ := hrel
    by_cases hlt : k < n
    · obtain ⟨ad, rfl, hc1⟩ := (H.out.below hBr).at_ (show k - 1 < n by omega)
      obtain ⟨ad2, hae, hc2⟩ := (H.out.below hBr).at_ hlt
      obtain rfl := Option.some.inj hae
      obtain ⟨j, hj⟩ : ∃ j, k - 1 = j := ⟨_, rfl⟩
      have hkm : (k : Int) - 1 = (j : Int) := by omega
      have hws : IntKind.i64.wrap (j : Int) = (j : Int) := by rw [IntKind.wrap_i64]; omega
      have hjn : j < n := by omega
      have HO := hid ho
      have HNk := hid (HN.out k hk hlt)
      have HOk : Hid (aheadE (elt noEnt es (k - 1)) (elt noEnt es k) = true → ordN es (k + 1)) := by
        intro h3 i h1 h2
        rcases Nat.lt_or_ge i k with h4 | h4
        · exact ho i h1 h4
        · obtain rfl : i = k := by omega
          exact h3
      rw [hj] at hc1 HNk HOk
      obtain ⟨Ak, nk, ck, Av, nv, cv, a0, a1, a2, a3, a4, a5, _, _, _⟩ := hc1
      obtain ⟨Bk, mk, dk, Bv, mv, dv, b0, b1, b2, b3, b4, b5, _, _, _⟩ := hc2
      generalize elt noEnt es j = x at *
      generalize elt noEnt es k = y at *
      have A5 := hid a5
      have B5 := hid b5
      clear ho hae hj a5 b5
      obtain ⟨C, hC⟩ : ∃ C, cmpB (eKey x) (eKey y) = C := ⟨_, rfl⟩
      have HC := hid hC
      have hb := cmpB_bound (eKey x) (eKey y)
      have hz := cmpB_zero (eKey x) (eKey y)
      rw [hC] at hb hz
      have HA : Hid (aheadE x y = true ↔ (C < 0 ∨ (C = 0 ∧ eSeq y < eSeq x))) := by
        unfold Hid
        rw [aheadE, aheadK_iff, hC, hz]
      clear hC hz
      rcases (by omega : C < 0 ∨ C = 0 ∨ 0 < C) with hC0 | hC0 | hC0
      · have hd1 : decide ((0 : Int) < C) = false := decide_eq_false (by omega)
        have hd2 : (C == 0) = false := by rw [beq_eq_false_iff_ne]; omega
        have HF := hid (HOk.out (HA.out.2 (.inl hC0)))
        clear hC0 hb
        go_wp2
        go_quiet (first | (go_at_call 62; refine Calls.quiet_of_same (v := .int .i64 C) ((compare_any Ak nk ck (eKey x) Bk mk dk (eKey y) _ (A5.out.drewN _) (B5.out.drewN _)).mono ?_); rintro r w1 ⟨rfl, rfl⟩; exact ⟨(by rw [HC.out]), rfl⟩))
        go_wp2
        go_quiet (fail)
        go_wp2
        go_roundw
        case rel => exact ⟨k + 1, by omega, by go_num, HF.out, below_drewN hBr _⟩
        case measure => simp [intOf]; omega
      · subst hC0
        by_cases hs : eSeq x ≤ eSeq y
        · have hd1 : decide (eSeq x ≤ eSeq y) = true := decide_eq_true hs
          have HF := hid (HNk.out (by
            cases hq : aheadE x y
            · rfl
            · have := HA.out.1 hq; omega))
          clear hb
          go_wp2
          go_quiet (first | (go_at_call 62; refine Calls.quiet_of_same (v := .int .i64 0) ((compare_any Ak nk ck (eKey x) Bk mk dk (eKey y) _ (A5.out.drewN _) (B5.out.drewN _)).mono ?_); rintro r w1 ⟨rfl, rfl⟩; exact ⟨(by rw [HC.out]), rfl⟩))
          go_wp2
          go_quiet (fail)
          go_wp2
          go_ret
          exact ⟨by rw [HF.out]; rfl, by first | exact below_drewN hBr _ | exact below_drewN (below_drewN hBr _) _⟩
        · have hd1 : decide (eSeq x ≤ eSeq y) = false := decide_eq_false hs
          have HF := hid (HOk.out (HA.out.2 (.inr ⟨rfl, by omega⟩)))
          clear hs hb
          go_wp2
          go_quiet (first | (go_at_call 62; refine Calls.quiet_of_same (v := .int .i64 0) ((compare_any Ak nk ck (eKey x) Bk mk dk (eKey y) _ (A5.out.drewN _) (B5.out.drewN _)).mono ?_); rintro r w1 ⟨rfl, rfl⟩; exact ⟨(by rw [HC.out]), rfl⟩))
          go_wp2
          go_quiet (fail)
          go_wp2
          go_roundw
          case rel => exact ⟨k + 1, by omega, by go_num, HF.out, below_drewN hBr _⟩
          case measure => simp [intOf]; omega
      · have hd1 : decide ((0 : Int) < C) = true := decide_eq_true hC0
        have HF := hid (HNk.out (by
            cases hq : aheadE x y
            · rfl
            · have := HA.out.1 hq; omega))
        clear hb
        go_wp2
        go_quiet (first | (go_at_call 62; refine Calls.quiet_of_same (v := .int .i64 C) ((compare_any Ak nk ck (eKey x) Bk mk dk (eKey y) _ (A5.out.drewN _) (B5.out.drewN _)).mono ?_); rintro r w1 ⟨rfl, rfl⟩; exact ⟨(by rw [HC.out]), rfl⟩))
        go_wp2
        go_quiet (fail)
        go_wp2
        go_ret
        exact ⟨by rw [HF.out]; rfl, by first | exact below_drewN hBr _ | exact below_drewN (below_drewN hBr _) _⟩
    · have HF := hid (HS.out k (by omega) ho)
      go_wp2
      go_ret
      exact ⟨by rw [HF.out]; rfl, hBr⟩
set_option maxHeartbeats 16000000 in
set_option maxRecDepth 100000 in
theorem shared_any (A : Option Addr) (n c : Nat) (xs : List UInt8) (B : Option Addr) (m d : Nat) (ys : List UInt8) (w : World) (h : RB w A n xs) (h' : RB w B m ys) :
    Calls Try.prog 68 #[.slice A n c, .slice B m d] w fun e w' => e = .returned (.int .i64 (cmnB xs ys : Nat)) ∧ Below w.heap.size w w' := by
  have hm := h.max
  have hl := h.1
  have hl' := h'.1
  have HI : Hid (∀ k, k ≤ n → k ≤ m → (∀ j, j < k → bAt xs j = bAt ys j) → (k = n ∨ k = m ∨ bAt xs k ≠ bAt ys k) → cmnB xs ys = k) := by
    intro k h1 h2 h3 h4
    exact cmnB_is xs ys k (by omega) (by omega) h3 (by rw [hl, hl']; exact h4)
  have H := hid h
  have H' := hid h'
  clear h h' hl hl'
  go_enter Try.func68, Try.ntmps68
  go_wp2
  go_loopw [5] (fun i wr => ∃ k : Nat, k ≤ n ∧ k ≤ m ∧ i = .int .i64 k ∧ (∀ j, j < k → bAt xs j = bAt ys j) ∧ Below w.heap.size w wr) (fun i wr => n - (intOf i).toNat)
  case atStart => exact ⟨0, Nat.zero_le _, Nat.zero_le _, rfl, fun j hj => absurd hj (by omega), Below.refl _ _⟩
  case round =>
    obtain ⟨k, hkn, hkm, rfl, hall, hB⟩ := hrel
    have HA := hid hall
    clear hall
    rcases Nat.lt_or_ge k n with h1 | h1
    · have hd1 : decide ((k : Int) < (n : Int)) = true := decide_eq_true (by omega)
      rcases Nat.lt_or_ge k m with h2 | h2
      · have hd2 : decide ((k : Int) < (m : Int)) = true := decide_eq_true (by omega)
        obtain ⟨ad, rfl, p0⟩ := H.out.at_ h1
        obtain ⟨be, rfl, q0⟩ := H'.out.at_ h2
        have p0 := below_cell hB p0
        have q0 := below_cell hB q0
        by_cases he : bAt xs k = bAt ys k
        · have HA2 : Hid (∀ j, j < k + 1 → bAt xs j = bAt ys j) := by
            intro j hj
            rcases Nat.lt_succ_iff_lt_or_eq.1 hj with h3 | h3
            · exact HA.out j h3
            · rw [h3]; exact he
          rw [he] at p0
          clear he
          go_wp2
          go_quiet (fail)
          go_wp2
          go_roundw
          case rel => exact ⟨k + 1, by omega, by omega, by go_num, HA2.out, below_drewN hB _⟩
          case measure => simp [intOf]; omega
        · have hd3 : ((bAt xs k : Int) == (bAt ys k : Int)) = false := by rw [beq_eq_false_iff_ne]; omega
          have HR := hid (HI.out k hkn hkm HA.out (.inr (.inr he)))
          clear he
          go_wp2
          go_quiet (fail)
          go_wp2
          go_ret
          exact ⟨by rw [HR.out]; rfl, below_drewN hB _⟩
      · obtain rfl : m = k := by omega
        have hd2 : ¬ ((m : Int) < (m : Int)) := by omega
        have HR := hid (HI.out m hkn hkm HA.out (.inr (.inl rfl)))
        go_wp2
        go_quiet (fail)
        go_wp2
        go_ret
        exact ⟨by rw [HR.out]; rfl, below_drewN hB _⟩
    · obtain rfl : n = k := by omega
      have HR := hid (HI.out n hkn hkm HA.out (.inl rfl))
      go_wp2
      go_quiet (fail)
      go_wp2
      go_ret
      exact ⟨by rw [HR.out]; rfl, below_drewN hB _⟩
end Go.Proofs.Ytkkclkknpjapcaa
/-! ### OI -/
namespace Go.Proofs.Ytkkclkknpjapcaa
open Go.RowKit
set_option linter.unusedVariables false
set_option linter.unusedSimpArgs false

theorem intinfo : (Try.prog.info? 3).map (fun i => (i.zero, i.size, i.bytes)) = some (some (.int .i64 0), 1, 8) := by kernel_rfl
def ints (zs : List Int) : List Value := zs.map fun z => .int .i64 z
theorem ints_length (zs : List Int) : (ints zs).length = zs.length := by simp [ints]
theorem ints_append (a b : List Int) : ints (a ++ b) = ints a ++ ints b := by simp [ints]
theorem ints_one (zs : List Int) : ∀ u ∈ ints zs, u.oneCell' = true := by
  intro u hu
  simp only [ints, List.mem_map] at hu
  obtain ⟨z, _, rfl⟩ := hu
  rfl
theorem ints_get (zs : List Int) (j : Nat) (hj : j < zs.length) : (ints zs)[j]? = some (.int .i64 (elt 0 zs j)) := by
  simp [ints, elt, hj]
def OI (w : World) (base : Nat) (v : Value) (zs : List Int) : Prop := w.ownsRow base 3 1 v zs.length (ints zs)
section
variable {w w' : World} {base : Nat} {v : Value} {zs : List Int}
theorem OI.nil (w : World) (base : Nat) : OI w base (.slice none 0 0) [] := World.ownsRow_nil _ _ _ _
theorem OI.below (h : OI w base v zs) (hb : Below w.heap.size w w') : OI w' base v zs := own_below h hb
theorem OI.mono {base' : Nat} (h : OI w base v zs) (hb : base' ≤ base) : OI w base' v zs := own_mono h hb
theorem OI.base_ (h : OI w base v zs) (k : Nat) (hk : v.ownBlock = some k) : base ≤ k := own_base h k hk
theorem OI.form (h : OI w base v zs) (n : Nat) (hl : zs.length = n) (hn : 0 < n) : ∃ g cap, v = .slice (some ⟨g, 0, none⟩) n cap ∧ base ≤ g ∧ g < w.heap.size ∧ n ≤ cap := by
  subst hl
  obtain ⟨g, cap, e, h1, h2⟩ := World.ownsRow.form h hn
  subst e
  exact ⟨g, cap, rfl, h1, h2, own_cap h⟩
theorem OI.slice (h : OI w base v zs) (n : Nat) (hl : zs.length = n) : ∃ A c, v = .slice A n c ∧ n ≤ c := by
  subst hl
  obtain ⟨A, c, rfl⟩ := own_slice h
  exact ⟨A, c, rfl, own_cap h⟩
theorem OI.cell {g n c : Nat} (h : OI w base (.slice (some ⟨g, 0, none⟩) n c) zs) (hl : zs.length = n) {j : Nat} (hj : j < n) : w.cell? ⟨g, j, none⟩ = some (.int .i64 (elt 0 zs j)) := by
  subst hl
  rw [World.ownsRow.cellAt h j (by omega), ints_get _ _ hj]
end
/-- append of one number. -/
theorem wpI_append1 {ops : Array Oper} {rest : List Oper} {o : Oper} {a : Act} {Q : Exit → Act → World → Prop} (w0 w : World) (base : Nat) (hgd : o.guard = none) (s x : Operand)
    (ho : o.op = .call { callee := .builtin .append, args := #[s, x], argTypes := #[29, 29] })
    (v : Value) (zs : List Int) (hs : a.eval s = v) (hown : OI w base v zs) (z : Int) (c g : Nat) (hg : g = w.heap.size) (hx : a.eval x = .slice (some ⟨g, 0, none⟩) 1 c)
    (hbytes : (zs.length + 1) * 8 ≤ 140737488355328) (hB : Below base w0 w) (hbase : base ≤ w.heap.size)
    (h : ∀ v' w', OI w' base v' (zs ++ [z]) → Below base w0 w' → wpList Try.prog ops Q rest (a.put o.dst v') w') : wpList Try.prog ops Q (o :: rest) a (w.alloc (.cells #[.int .i64 z] 3)) := by
  subst hg
  have hB1 : Below base w0 (w.alloc (.cells #[.int .i64 z] 3)) := hB.alloc hbase _
  have hr : Reads (w.alloc (.cells #[.int .i64 z] 3)) 1 (some ⟨w.heap.size, 0, none⟩) 1 (ints [z]) := Reads.block (heap_alloc_new w _) rfl
  refine wpList_append_any _ hgd s x _ ho base 3 (.int .i64 0) 1 8 Try.underlying29 intinfo rfl (by omega) v zs.length (ints zs) hs (World.ownsRow.alloc hown _) _ 1 c (ints [z]) hx hr (ints_one _) (by simp only [maxLen]; omega) hbytes (by simp; omega) ?_
  intro v' w' h1 h2 h3
  refine h v' w' ?_ (hB1.grown h2 (by simp; omega) (own_base hown))
  show w'.ownsRow _ _ _ _ _ _
  rw [List.length_append, ints_append]
  exact h1
end Go.Proofs.Ytkkclkknpjapcaa
