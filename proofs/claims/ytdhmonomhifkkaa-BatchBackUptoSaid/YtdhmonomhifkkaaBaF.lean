/- Layer 8: a batch as the document has it: whether it may be, its bytes. -/
import Derived.Test.YtdhmonomhifkkaaBaE
namespace Go.Proofs.Ytdhmonomhifkkaa
open Go.RowKit
set_option linter.unusedVariables false
set_option linter.unusedSimpArgs false

set_option maxHeartbeats 8000000 in
set_option maxRecDepth 100000 in
theorem refmay_any (s : Int) (A : Option Addr) (n c : Nat) (ops : List OpR) (w : World) (h : ROps w A n ops) (hs : -9223372036854775808 ≤ s ∧ s ≤ 9223372036854775807) :
    Calls Try.prog 10 #[.agg #[.int .i64 s, .slice A n c]] w fun e w' => e = .returned (.int .i64 (mayE s ops)) ∧ Below w.heap.size w w' := by
  have hl := h.1
  have hm := h.2.1
  have H := hid h
  clear h
  obtain ⟨E, hE⟩ : ∃ E, E = mayE s ops := ⟨_, rfl⟩
  rw [← hE]
  unfold mayE at hE
  rw [hl] at hE
  by_cases h0 : n < 1
  · have h1 : (n : Int) < 1 := by omega
    rw [if_pos (.inl (by omega))] at hE
    subst hE
    go_enter Try.func10, Try.ntmps10
    go_wp2
    go_ret
    exact ⟨rfl, below_alloc' (Below.refl _ _) _⟩
  have h0i : ¬ (n : Int) < 1 := by omega
  by_cases h2 : 400 < n
  · have h2i : (400 : Int) < n := by omega
    rw [if_pos (.inr h2)] at hE
    subst hE
    go_enter Try.func10, Try.ntmps10
    go_wp2
    go_ret
    exact ⟨rfl, below_alloc' (Below.refl _ _) _⟩
  have h2i : ¬ (400 : Int) < n := by omega
  rw [if_neg (by omega)] at hE
  by_cases h3 : s < 1
  · rw [if_pos (.inl h3)] at hE
    subst hE
    go_enter Try.func10, Try.ntmps10
    go_wp2
    go_ret
    exact ⟨rfl, below_alloc' (Below.refl _ _) _⟩
  by_cases h4 : 4611686018427387904 - ((n : Int) - 1) < s
  · rw [if_pos (.inr (by omega))] at hE
    subst hE
    go_enter Try.func10, Try.ntmps10
    go_wp2
    go_ret
    exact ⟨rfl, below_alloc' (Below.refl _ _) _⟩
  rw [if_neg (by omega)] at hE
  have HE := hid hE
  clear hE hl
  go_enter Try.func10, Try.ntmps10
  go_wp2
  go_loopw [31] (fun i wr => ∃ k : Nat, k ≤ n ∧ i = .int .i64 k ∧ firstE ops k = 0 ∧ Below w.heap.size w wr) (fun i wr => n - (intOf i).toNat)
  case atStart => exact ⟨0, Nat.zero_le _, rfl, rfl, below_alloc' (Below.refl _ _) _⟩
  case round =>
    obtain ⟨k, hk, rfl, hfk, hB⟩ := hrel
    have HFK := hid hfk
    clear hfk
    by_cases hlt : k < n
    · obtain ⟨ad, rfl, hcells⟩ := H.out.at_ hlt
      obtain ⟨Ak, nk, ck, Av, nv, cv, hc0, hc1, hc2, hc3, hrk, hck, hrv, hcv, hwf⟩ := hcells.below hB
      have hfe : firstE ops (k + 1) = mayOpE nk (opGone (elt noOp ops k)) (opTil (elt noOp ops k)) nv := by
        rw [firstE, if_neg (by rw [HFK.out]; simp), opE, hrk.1, hrv.1]
      have hwt := wf_i64 hwf
      have hnk := hrk.2.1
      have hnv := hrv.2.1
      clear hrk hrv hck hcv hwf hcells
      generalize opTil (elt noOp ops k) = til at *
      generalize opGone (elt noOp ops k) = G at *
      have HR : Hid (∀ z : Int, z ≠ 0 → mayOpE nk G til nv = z → E = z) := fun z hz he => by
        have e1 : firstE ops (k + 1) ≠ 0 := by rw [hfe, he]; exact hz
        rw [HE.out, firstE_stays (j := k + 1) e1 n hlt, hfe, he]
      have HF := hid hfe
      clear hfe
      cases G
      all_goals
        go_wp2
        all_goals
          (try simp only [beq_iff_eq, beq_eq_false_iff_ne, bne_iff_ne, ne_eq] at *)
          first
          | (go_ret
             refine ⟨ret_i64 (HR.out _ (by decide) ?_).symm, below_alloc' hB _⟩
             simp only [mayOpE, Bool.false_eq_true, false_and, or_false, true_and]
             (repeat' split) <;> omega)
          | (go_roundw
             case rel =>
               refine ⟨k + 1, by omega, by go_num, HF.out.trans ?_, below_alloc' hB _⟩
               simp only [mayOpE, Bool.false_eq_true, false_and, or_false, true_and]
               (repeat' split) <;> omega
             case measure => simp [intOf]; omega)
    · obtain rfl : k = n := by omega
      go_wp2
      go_ret
      exact ⟨ret_i64 (by rw [HE.out, HFK.out]), hB⟩
end Go.Proofs.Ytdhmonomhifkkaa
