/- Layer 16: where Merge tells an error. -/
import Derived.Test.YtnjhiiakpndnnaaMgH
namespace Go.Proofs.Ytnjhiiakpndnnaa
open Go.RowKit
set_option linter.unusedVariables false
set_option linter.unusedSimpArgs false

def MErrC (w w' : World) (C : Int) (r : Ending) : Prop := r = .returned (.tuple #[.slice none 0 0, .int .i64 C]) ∧ Below w.heap.size w w'
set_option maxHeartbeats 64000000 in
set_option maxRecDepth 200000 in
theorem merge_bad (A : Option Addr) (n c : Nat) (ess : List (List EntR)) (w : World) (h : REnss w A n ess) (C : Int) (h1 : (∃ r, r < n ∧ ¬ Srt (er ess r)) → C = 11) (h2 : (∀ r, r < n → Srt (er ess r)) → C = 13 ∧ (64 < n ∨ 40000 < totR ess)) :
    Calls Try.prog 12 #[.slice A n c] w fun r w' => MErrC w w' C r := by
  have hl := h.1
  have hmax := h.2.1
  have H := hid h
  have HL := hid hl
  have HTs : Hid (∀ k, k < n → totR (ess.take (k + 1)) = totR (ess.take k) + (er ess k).length) := fun k hk => tot_take (by rw [hl]; exact hk)
  have H1 := hid h1
  have H2 := hid h2
  clear h hl h1 h2
  go_enter Try.func12, Try.ntmps12
  go_wp2
  refine wp_scope_ghost 0 (fun (m : Nat) a' w' => False) rfl ?_ ?_
  · rintro m a' w' ⟨⟩
  intro hpass
  go_wp2
  go_loopw [4, 13] (fun s i wr => ∃ k S : Nat, k ≤ n ∧ i = .int .i64 k ∧ s = .int .i64 (S : Int) ∧ S = Nat.min (totR (ess.take k)) 40001 ∧ (∀ r, r < k → Srt (er ess r)) ∧ Below w.heap.size w wr) (fun s i wr => n - (intOf i).toNat)
  case atStart => exact ⟨0, 0, Nat.zero_le _, rfl, rfl, rfl, fun r hr => absurd hr (by omega), Below.refl _ _⟩
  case round =>
    obtain ⟨k, S, hk, rfl, rfl, hS, hso, hBr⟩ := hrel
    have hS2 : S ≤ 40001 := by rw [hS]; exact Nat.min_le_right _ _
    have HSo := hid hso
    have HSe := hid hS
    clear hS hso
    by_cases hlt : k < n
    · obtain ⟨ad, rfl, Aj, nj, cj, hcj, hrj, hnc⟩ := H.out.at_ hlt
      have hcj := below_cell hBr hcj
      have hlj := hrj.1
      have hjm := hrj.2.1
      have HRj := hid (hrj.below hBr)
      have HTs2 := hid (HTs.out k hlt)
      have HLj := hid hlj
      clear hrj hlj
      by_cases hsr : Srt (er ess k)
      · have HSr := hid (srtB_true hsr)
        have HSo2 : Hid (∀ r, r < k + 1 → Srt (er ess r)) := fun r hr => by
          rcases Nat.lt_succ_iff_lt_or_eq.1 hr with h | h
          · exact HSo.out r h
          · rw [h]; exact hsr
        have HSn : Hid (∀ S' : Nat, S' = Nat.min (S + nj) 40001 → S' = Nat.min (totR (ess.take (k + 1))) 40001) := by
          intro S' h
          rw [h, HTs2.out, HLj.out, HSe.out]
          show min (min _ _ + _) _ = min _ _
          omega
        clear hsr
        go_wp2_with (go_at_call 25; (with_reducible refine (ordered_any Aj nj cj (er ess k) _ HRj.out).mono ?_); rintro r w1 ⟨rfl, hb1⟩; rw [HSr.out]; have hB1 := below_then hBr hb1)
        all_goals
          go_roundw
          case rel => exact ⟨k + 1, Nat.min (S + nj) 40001, by omega, by go_num, congrArg (Value.int .i64) (by show _ = ((min (S + nj) 40001 : Nat) : Int); omega), HSn.out _ rfl, HSo2.out, hB1⟩
          case measure => simp [intOf]; omega
      · have HSr := hid (srtB_false hsr)
        have hC := H1.out ⟨k, hlt, hsr⟩
        have HC := hid hC
        clear hsr hC
        go_wp2_with (go_at_call 25; (with_reducible refine (ordered_any Aj nj cj (er ess k) _ HRj.out).mono ?_); rintro r w1 ⟨rfl, hb1⟩; rw [HSr.out]; have hB1 := below_then hBr hb1)
        try simp only [Exit.jump]
        go_ret2
        exact ⟨by rw [HC.out]; rfl, hB1⟩
    · obtain rfl : k = n := by omega
      obtain ⟨hC, hm⟩ := H2.out HSo.out
      have hSn := HSe.out
      rw [List.take_of_length_le (by rw [HL.out]; exact Nat.le_refl _)] at hSn
      have HC := hid hC
      clear hC
      by_cases h64 : 64 < k
      · have hd1 : decide ((64 : Int) < (k : Int)) = true := decide_eq_true (by omega)
        clear hSn hm HSe
        go_wp2
        try simp only [Exit.jump]
        go_ret2
        exact ⟨by rw [HC.out]; rfl, hBr⟩
      · have hd1 : decide ((64 : Int) < (k : Int)) = false := decide_eq_false (by omega)
        have hS4 : S = 40001 := by
          rw [hSn]
          show min _ _ = _
          omega
        subst hS4
        clear hSn hm HSe
        go_wp2
        try simp only [Exit.jump]
        go_ret2
        exact ⟨by rw [HC.out]; rfl, hBr⟩
end Go.Proofs.Ytnjhiiakpndnnaa
