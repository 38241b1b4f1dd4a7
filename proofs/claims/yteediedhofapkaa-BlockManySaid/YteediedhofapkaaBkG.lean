/- Layer 11: the document's Block: its answers where it takes nothing. -/
import Derived.Test.YteediedhofapkaaBkF
namespace Go.Proofs.Yteediedhofapkaa
open Go.RowKit
set_option linter.unusedVariables false
set_option linter.unusedSimpArgs false

set_option maxHeartbeats 8000000 in
theorem block_none (A : Option Addr) (n c : Nat) (es : List EntR) (w : World) (h : REnts w A n es) (hn : n = 0 ∨ 400 < n) :
    Calls Try.prog 7 #[.slice A n c] w fun r w' => EncBad w w' 13 r := by
  clear h
  rcases hn with rfl | hn
  · go_enter Try.func7, Try.ntmps7
    go_wp2
    go_ret2
    exact ⟨rfl, Below.refl _ _⟩
  · have hn0 : ((n : Int) == 0) = false := by rw [beq_eq_false_iff_ne]; omega
    have hn4 : decide ((400 : Int) < (n : Int)) = true := decide_eq_true (by omega)
    go_enter Try.func7, Try.ntmps7
    go_wp2
    go_ret2
    exact ⟨rfl, Below.refl _ _⟩
set_option maxHeartbeats 16000000 in
set_option maxRecDepth 100000 in
theorem block_bad (A : Option Addr) (n c : Nat) (es : List EntR) (w : World) (h : REnts w A n es) (hn : 1 ≤ n ∧ n ≤ 400) (E : Nat) (hE : (¬ AllM es ∧ E = 1) ∨ (AllM es ∧ ¬ Srt es ∧ E = 11)) :
    Calls Try.prog 7 #[.slice A n c] w fun r w' => EncBad w w' E r := by
  have hl := h.1
  have hmax := h.2.1
  have hn0 : ((n : Int) == 0) = false := by rw [beq_eq_false_iff_ne]; omega
  have hn4 : decide ((400 : Int) < (n : Int)) = false := decide_eq_false (by omega)
  have H := hid h
  have HE := hid hE
  have HAll : Hid ((∀ j, j < n → mayE (elt noEnt es j) = true) → AllM es) := hid (fun hh j hj => hh j (by omega))
  have HNot : Hid (∀ k, k < n → mayE (elt noEnt es k) = false → ¬ AllM es) := hid (fun k hk hf ha => by rw [ha k (by omega)] at hf; cases hf)
  clear h hl hE hn
  go_enter Try.func7, Try.ntmps7
  go_wp2
  go_loopw [21] (fun i wr => ∃ k : Nat, k ≤ n ∧ i = .int .i64 k ∧ (∀ j, j < k → mayE (elt noEnt es j) = true) ∧ Below w.heap.size w wr) (fun i wr => n - (intOf i).toNat)
  case atStart => exact ⟨0, Nat.zero_le _, rfl, fun j hj => absurd hj (by omega), Below.refl _ _⟩
  case round =>
    obtain ⟨k, hk, rfl, hall, hB⟩ := hrel
    have HA := hid hall
    clear hall
    by_cases hlt : k < n
    · obtain ⟨ad, rfl, hen⟩ := H.out.at_ hlt
      obtain ⟨Ak, nk, ck, Av, nv, cv, a0, a1, a2, a3, a4, a5, a6, a7, a8⟩ := hen.below hB
      have hkl := a5.max
      have hvl := a6.max
      have e5 := a5.1
      have e6 := a6.1
      have HNk := hid (HNot.out k hlt)
      have HA2 : Hid (mayE (elt noEnt es k) = true → ∀ j, j < k + 1 → mayE (elt noEnt es j) = true) := by
        intro h j hj
        rcases Nat.lt_succ_iff_lt_or_eq.1 hj with h1 | h1
        · exact HA.out j h1
        · rw [h1]; exact h
      obtain ⟨M, hM⟩ : ∃ M, mayE (elt noEnt es k) = M := ⟨_, rfl⟩
      rw [hM] at HNk HA2
      generalize elt noEnt es k = x at *
      have hmN : mayN nk (eSeq x) (eGone x) (eTil x) nv = M := by rw [← e5, ← e6]; exact hM
      have HmN := hid hmN
      clear hen a5 a6 hM hmN e5 e6
      cases M
      · have HE1 : Hid (E = 1) := hid (HE.out.elim (fun h => h.2) (fun h => absurd h.1 (HNk.out rfl)))
        go_wp2_with (go_at_call 21; (with_reducible refine (refmay_any Ak nk ck (eSeq x) (eGone x) (eTil x) Av nv cv _ hkl hvl).mono ?_); rintro r w1 ⟨rfl, hb1⟩; rw [HmN.out])
        go_ret2
        rw [HE1.out]
        exact ⟨rfl, below_then (below_alloc' hB _) hb1⟩
      · go_wp2_with (go_at_call 21; (with_reducible refine (refmay_any Ak nk ck (eSeq x) (eGone x) (eTil x) Av nv cv _ hkl hvl).mono ?_); rintro r w1 ⟨rfl, hb1⟩; rw [HmN.out])
        go_roundw
        case rel => exact ⟨k + 1, by omega, by go_num, HA2.out (by first | rfl | trivial), below_then (below_alloc' hB _) hb1⟩
        case measure => simp [intOf]; omega
    · obtain rfl : k = n := by omega
      obtain ⟨hs, hE11⟩ : ¬ Srt es ∧ E = 11 := by
        rcases HE.out with h | h
        · exact absurd (HAll.out HA.out) h.1
        · exact h.2
      have HSr := hid (srtB_false hs)
      have HE1 := hid hE11
      clear hs hE11
      go_wp2_with (go_at_call 22; (with_reducible refine (refordered_any A k c es _ (H.out.below hB)).mono ?_); rintro r w1 ⟨rfl, hb1⟩; rw [HSr.out]; have hB1 := below_then hB hb1)
      go_ret2
      rw [HE1.out]
      exact ⟨rfl, hB1⟩
end Go.Proofs.Yteediedhofapkaa
