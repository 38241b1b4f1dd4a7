/- The document's order of two entries; rows in order. -/
import Derived.Test.YteediedhofapkaaMmI
import Derived.Test.YteediedhofapkaaMmP
import Derived.Deep.RegionWith
import Derived.Deep.DeepCutAuto
import Derived.BigQuiet
import Derived.BigRegion
namespace Go.Proofs.Yteediedhofapkaa
open Go.RowKit
set_option linter.unusedVariables false
set_option linter.unusedSimpArgs false

def aheadR (a b : EntR) : Int := if cmpB (eKey a) (eKey b) ≠ 0 then cmpB (eKey a) (eKey b) else if eSeq b < eSeq a then -1 else if eSeq a < eSeq b then 1 else 0
theorem aheadR_neg {a b : EntR} : aheadR a b < 0 ↔ aheadE a b = true := by
  rw [aheadE, aheadK_iff]
  unfold aheadR
  by_cases h : cmpB (eKey a) (eKey b) = 0
  · have hk := (cmpB_zero _ _).1 h
    rw [if_neg (by simpa using h)]
    by_cases h1 : eSeq b < eSeq a
    · rw [if_pos h1]; simp [hk, h1]
    · rw [if_neg h1]
      rw [← hk] at h
      split <;> simp [h, hk, h1]
      all_goals (rw [← hk, h]; decide)
  · rw [if_pos h]
    have hk : eKey a ≠ eKey b := fun e => h ((cmpB_zero _ _).2 e)
    simp [hk]
theorem aheadR_zero {a b : EntR} : aheadR a b = 0 ↔ eKey a = eKey b ∧ eSeq a = eSeq b := by
  unfold aheadR
  by_cases h : cmpB (eKey a) (eKey b) = 0
  · have hk := (cmpB_zero _ _).1 h
    rw [if_neg (by simpa using h)]
    by_cases h1 : eSeq b < eSeq a
    · rw [if_pos h1]; simp; omega
    · rw [if_neg h1]
      by_cases h2 : eSeq a < eSeq b
      · rw [if_pos h2]; simp; omega
      · rw [if_neg h2]; simp [hk]; omega
  · rw [if_pos h]
    have hk : eKey a ≠ eKey b := fun e => h ((cmpB_zero _ _).2 e)
    simp [hk, h]
theorem ret_i64 {a b : Int} (h : a = b) : Ending.returned (.int .i64 a) = .returned (.int .i64 b) := by rw [h]
set_option maxHeartbeats 8000000 in
theorem refahead_any (Ak : Option Addr) (nk ck : Nat) (Av : Option Addr) (nv cv : Nat) (a : EntR) (Bk : Option Addr) (mk dk : Nat) (Bv : Option Addr) (mv dv : Nat) (b : EntR) (w : World) (h1 : RB w Ak nk (eKey a)) (h2 : RB w Bk mk (eKey b)) :
    Calls Try.prog 34 #[.agg #[.slice Ak nk ck, .int .i64 (eSeq a), .bool (eGone a), .int .i64 (eTil a), .slice Av nv cv], .agg #[.slice Bk mk dk, .int .i64 (eSeq b), .bool (eGone b), .int .i64 (eTil b), .slice Bv mv dv]] w
      fun r w' => r = .returned (.int .i64 (aheadR a b)) ∧ Below w.heap.size w w' := by
  obtain ⟨C, hC⟩ : ∃ C, cmpB (eKey a) (eKey b) = C := ⟨_, rfl⟩
  have HA : Hid (aheadR a b = if C ≠ 0 then C else if eSeq b < eSeq a then -1 else if eSeq a < eSeq b then 1 else 0) := by unfold Hid aheadR; rw [hC]
  have hba := heap_alloc_new w (.cells #[.slice Ak nk ck, .int .i64 (eSeq a), .bool (eGone a), .int .i64 (eTil a), .slice Av nv cv] 26)
  have hbb := heap_alloc_new (w.alloc (.cells #[.slice Ak nk ck, .int .i64 (eSeq a), .bool (eGone a), .int .i64 (eTil a), .slice Av nv cv] 26)) (.cells #[.slice Bk mk dk, .int .i64 (eSeq b), .bool (eGone b), .int .i64 (eTil b), .slice Bv mv dv] 26)
  have e0 : (w.alloc (.cells #[.slice Ak nk ck, .int .i64 (eSeq a), .bool (eGone a), .int .i64 (eTil a), .slice Av nv cv] 26)).heap.size = w.heap.size + 1 := by simp
  rw [e0] at hbb
  have hB : Below w.heap.size w ((w.alloc (.cells #[.slice Ak nk ck, .int .i64 (eSeq a), .bool (eGone a), .int .i64 (eTil a), .slice Av nv cv] 26)).alloc (.cells #[.slice Bk mk dk, .int .i64 (eSeq b), .bool (eGone b), .int .i64 (eTil b), .slice Bv mv dv] 26)) := below_alloc' (below_alloc' (Below.refl _ _) _) _
  have hba := blk_below (below_alloc' (Below.refl _ _) (.cells #[.slice Bk mk dk, .int .i64 (eSeq b), .bool (eGone b), .int .i64 (eTil b), .slice Bv mv dv] 26)) hba
  have H1 := hid (h1.below hB)
  have H2 := hid (h2.below hB)
  have HC := hid hC
  clear h1 h2 hC
  go_enter Try.func34, Try.ntmps34
  go_wp2_with (go_at_call 13; (with_reducible refine (refcompare_any Ak nk ck (eKey a) Bk mk dk (eKey b) _ H1.out H2.out).mono ?_); rintro r w1 ⟨rfl, hb1⟩; rw [HC.out]; have hB1 := below_then hB hb1; have a1 := box_at (blk_below hb1 hba) 1 (.int .i64 (eSeq a)) rfl; have b1 := box_at (blk_below hb1 hbb) 1 (.int .i64 (eSeq b)) rfl)
  all_goals
    go_ret
    refine ⟨?_, hB1⟩
    rw [HA.out]
    refine ret_i64 ?_
    try simp only [beq_iff_eq, beq_eq_false_iff_ne, bne_iff_ne, bne_eq_false_iff_eq, decide_eq_true_eq, decide_eq_false_iff_not] at *
    first
    | rfl
    | (simp_all; done)
    | ((repeat' split) <;> omega)
    | trace_state
theorem elt_mem' {es : List EntR} {k : Nat} (h : k < es.length) : elt noEnt es k ∈ es := elt_mem h
/-- In order, by neighbours. -/
def ordN (es : List EntR) (k : Nat) : Prop := ∀ i, 1 ≤ i → i < k → aheadE (elt noEnt es (i - 1)) (elt noEnt es i) = true
theorem Srt.at_ {es : List EntR} (h : Srt es) : ∀ i j, i < j → j < es.length → aheadE (elt noEnt es i) (elt noEnt es j) = true := by
  induction es with
  | nil => intro i j _ hj; simp at hj
  | cons x l ih =>
    intro i j hij hj
    obtain ⟨j', rfl⟩ : ∃ j', j = j' + 1 := ⟨j - 1, by omega⟩
    have e : elt noEnt (x :: l) (j' + 1) = elt noEnt l j' := by simp [elt]
    rw [e]
    have hj' : j' < l.length := by simpa using hj
    cases i with
    | zero =>
      have e0 : elt noEnt (x :: l) 0 = x := by simp [elt]
      rw [e0]
      exact h.1 _ (elt_mem hj')
    | succ i =>
      have e1 : elt noEnt (x :: l) (i + 1) = elt noEnt l i := by simp [elt]
      rw [e1]
      exact ih h.2 i j' (by omega) hj'
theorem Srt_ordN {es : List EntR} (h : Srt es) : ordN es es.length := fun i h1 h2 => h.at_ (i - 1) i (by omega) h2
theorem ordN_Srt {es : List EntR} (h : ordN es es.length) : Srt es := by
  induction es with
  | nil => trivial
  | cons x l ih =>
    have hl : Srt l := ih fun i h1 h2 => by
      have := h (i + 1) (by omega) (by simp; omega)
      have e1 : elt noEnt (x :: l) (i + 1) = elt noEnt l i := by simp [elt]
      have e2 : elt noEnt (x :: l) (i + 1 - 1) = elt noEnt l (i - 1) := by
        obtain ⟨i', rfl⟩ : ∃ i', i = i' + 1 := ⟨i - 1, by omega⟩
        simp [elt]
      rwa [e1, e2] at this
    refine ⟨fun y hy => ?_, hl⟩
    cases l with
    | nil => cases hy
    | cons z m =>
      have hz := h 1 (by omega) (by simp)
      have e1 : elt noEnt (x :: z :: m) 1 = z := by simp [elt]
      have e0 : elt noEnt (x :: z :: m) (1 - 1) = x := by simp [elt]
      rw [e0, e1] at hz
      rcases List.mem_cons.1 hy with rfl | hy
      · exact hz
      · exact ahead_trans hz (hl.1 y hy)
noncomputable def srtB (es : List EntR) : Bool := @decide (Srt es) (Classical.propDecidable _)
theorem srtB_true {es : List EntR} (h : Srt es) : srtB es = true := by unfold srtB; simpa using h
theorem srtB_false {es : List EntR} (h : ¬ Srt es) : srtB es = false := by unfold srtB; simpa using h
set_option maxHeartbeats 16000000 in
set_option maxRecDepth 100000 in
theorem refordered_any (A : Option Addr) (n c : Nat) (es : List EntR) (w : World) (h : REnts w A n es) :
    Calls Try.prog 22 #[.slice A n c] w fun e w' => e = .returned (.bool (srtB es)) ∧ Below w.heap.size w w' := by
  have hl := h.1
  have hm := h.2.1
  have HS : Hid (∀ k, n ≤ k → ordN es k → srtB es = true) := fun k hk ho => srtB_true (ordN_Srt fun i h1 h2 => ho i h1 (by omega))
  have HN : Hid (∀ k, 1 ≤ k → k < n → aheadE (elt noEnt es (k - 1)) (elt noEnt es k) = false → srtB es = false) := fun k h1 h2 h3 => srtB_false fun hs => by
    rw [hs.at_ (k - 1) k (by omega) (by omega)] at h3
    cases h3
  have H := hid h
  clear h hl
  go_enter Try.func22, Try.ntmps22
  go_wp2
  go_loopw [3] (fun i wr => ∃ k : Nat, 1 ≤ k ∧ i = .int .i64 k ∧ ordN es k ∧ Below w.heap.size w wr) (fun i wr => n - (intOf i).toNat)
  case atStart => exact ⟨1, by omega, rfl, fun i h1 h2 => by omega, Below.refl _ _⟩
  case round =>
    obtain ⟨k, hk, rfl, ho, hBr⟩ := hrel
    by_cases hlt : k < n
    · obtain ⟨ad, rfl, hc1⟩ := (H.out.below hBr).at_ (show k - 1 < n by omega)
      obtain ⟨ad2, hae, hc2⟩ := (H.out.below hBr).at_ hlt
      obtain rfl := Option.some.inj hae
      obtain ⟨j, hj⟩ : ∃ j, k - 1 = j := ⟨_, rfl⟩
      have hkm : (k : Int) - 1 = (j : Int) := by omega
      have hws : IntKind.i64.wrap (j : Int) = (j : Int) := by rw [IntKind.wrap_i64]; omega
      have hjn : j < n := by omega
      have HO := hid ho
      have HNk := hid (HN.out k hk hlt)
      have HOk : Hid (aheadE (elt noEnt es (k - 1)) (elt noEnt es k) = true → ordN es (k + 1)) := by
        intro h3 i h1 h2
        rcases Nat.lt_or_ge i k with h4 | h4
        · exact ho i h1 h4
        · obtain rfl : i = k := by omega
          exact h3
      rw [hj] at hc1 HNk HOk
      obtain ⟨Ak, nk, ck, Av, nv, cv, a0, a1, a2, a3, a4, a5, _, _, _⟩ := hc1
      obtain ⟨Bk, mk, dk, Bv, mv, dv, b0, b1, b2, b3, b4, b5, _, _, _⟩ := hc2
      generalize elt noEnt es j = x at *
      generalize elt noEnt es k = y at *
      have A5 := hid a5
      have B5 := hid b5
      clear ho hae hj a5 b5
      obtain ⟨C, hC⟩ : ∃ C, aheadR x y = C := ⟨_, rfl⟩
      have HC := hid hC
      clear hC
      by_cases hC0 : 0 ≤ C
      · have HD := hid (decide_eq_true hC0)
        have hf : srtB es = false := HNk.out (by
          have := HC.out
          cases hq : aheadE x y
          · rfl
          · rw [← aheadR_neg] at hq; omega)
        have HF := hid hf
        clear hf hC0
        go_wp2
        go_cut [3, 20] (fun x3 v wx => x3 = .int .i64 (k : Int) ∧ v = .bool true ∧ Below w.heap.size w wx)
        case first =>
          go_region_with (go_at_call 34; (with_reducible refine (refahead_any Ak nk ck Av nv cv x Bk mk dk Bv mv dv y _ A5.out.drew B5.out.drew).mono ?_); rintro r w1 ⟨rfl, hb1⟩; rw [HC.out])
          all_goals
            go_wp2
            go_meet
            exact ⟨rfl, by rw [HD.out], below_then hBr (below_then (below_drew (Below.refl _ _)) hb1)⟩
        case rest =>
          obtain ⟨rfl, rfl, hB3⟩ := hcut
          go_wp2
          go_ret
          exact ⟨by rw [HF.out]; rfl, hB3⟩
      · have HD := hid (decide_eq_false hC0)
        have ho2 : ordN es (k + 1) := HOk.out (by rw [← aheadR_neg, HC.out]; omega)
        have HO2 := hid ho2
        clear ho2 hC0
        go_wp2
        go_cut [3, 20] (fun x3 v wx => x3 = .int .i64 (k : Int) ∧ v = .bool false ∧ Below w.heap.size w wx)
        case first =>
          go_region_with (go_at_call 34; (with_reducible refine (refahead_any Ak nk ck Av nv cv x Bk mk dk Bv mv dv y _ A5.out.drew B5.out.drew).mono ?_); rintro r w1 ⟨rfl, hb1⟩; rw [HC.out])
          all_goals
            go_wp2
            go_meet
            exact ⟨rfl, by rw [HD.out], below_then hBr (below_then (below_drew (Below.refl _ _)) hb1)⟩
        case rest =>
          obtain ⟨rfl, rfl, hB3⟩ := hcut
          go_wp2
          go_roundw
          case rel => exact ⟨k + 1, by omega, by go_num, HO2.out, hB3⟩
          case measure => simp [intOf]; omega
    · go_wp2
      go_ret
      exact ⟨by rw [HS.out k (by omega) ho]; rfl, hBr⟩
end Go.Proofs.Yteediedhofapkaa
