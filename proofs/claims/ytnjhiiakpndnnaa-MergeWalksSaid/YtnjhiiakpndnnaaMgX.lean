/- Layer 16's laws: want. -/
import Derived.Test.YtnjhiiakpndnnaaMgU
namespace Go.Proofs.Ytnjhiiakpndnnaa
open Go.RowKit
set_option linter.unusedVariables false
set_option linter.unusedSimpArgs false

/-- What the document answers. -/
def WantC (w w' : World) (n : Nat) (ess : List (List EntR)) (r : Ending) : Prop :=
  ((∃ k, k < n ∧ ¬ Srt (er ess k)) ∧ MErrC w w' 11 r) ∨ ((∀ k, k < n → Srt (er ess k)) ∧ 64 < n ∧ MErrC w w' 13 r) ∨
  ((∀ k, k < n → Srt (er ess k)) ∧ n ≤ 64 ∧ ∃ A c out, r = .returned (.tuple #[.slice A out.length c, .int .i64 0]) ∧ MRel ess out ∧ out.length ≤ c ∧ REnts w' A out.length out ∧ Below w.heap.size w w')
theorem RefC.open_ {w w' : World} {ess : List (List EntR)} {r : Ending} (h : RefC w w' ess r) (hf : totR ess ≤ 40000) : ∃ A c out, r = .returned (.slice A out.length c) ∧ MRel ess out ∧ out.length ≤ c ∧ REnts w' A out.length out ∧ Below w.heap.size w w' := by
  obtain ⟨v, out, rfl, hm, hl, ⟨U, hU, hr⟩, hb⟩ := h
  obtain ⟨A, c, rfl, hc, hre⟩ := REnts_of hU (hr.mono fun x a hx => hx.below hb) (by omega)
  exact ⟨A, c, out, rfl, hm, hc, hre, hb⟩
set_option maxHeartbeats 32000000 in
set_option maxRecDepth 100000 in
theorem want_any (A : Option Addr) (n c : Nat) (ess : List (List EntR)) (w : World) (h : REnss w A n ess) (hf : totR ess ≤ 40000) :
    Calls Try.prog 13 #[.slice A n c] w fun r w' => WantC w w' n ess r := by
  have hmax := h.2.1
  have H := hid h
  clear h
  go_enter Try.func13, Try.ntmps13
  go_wp2
  go_loopw [8] (fun i wr => ∃ k : Nat, k ≤ n ∧ i = .int .i64 k ∧ (∀ r, r < k → Srt (er ess r)) ∧ Below w.heap.size w wr) (fun i wr => n - (intOf i).toNat)
  case atStart => exact ⟨0, Nat.zero_le _, rfl, fun r hr => absurd hr (by omega), Below.refl _ _⟩
  case round =>
    obtain ⟨k, hk, rfl, hso, hBr⟩ := hrel
    have HSo := hid hso
    clear hso
    by_cases hlt : k < n
    · obtain ⟨ad, rfl, Aj, nj, cj, hcj, hrj, hnc⟩ := H.out.at_ hlt
      have hcj := below_cell hBr hcj
      have HRj := hid (hrj.below hBr)
      clear hrj
      by_cases hsr : Srt (er ess k)
      · have HSr := hid (srtB_true hsr)
        have HSo2 : Hid (∀ r, r < k + 1 → Srt (er ess r)) := fun r hr => by
          rcases Nat.lt_succ_iff_lt_or_eq.1 hr with h | h
          · exact HSo.out r h
          · rw [h]; exact hsr
        clear hsr
        go_wp2_with (go_at_call 19; (with_reducible refine (refordered_any Aj nj cj (er ess k) _ HRj.out).mono ?_); rintro r w1 ⟨rfl, hb1⟩; rw [HSr.out]; have hB1 := below_then hBr hb1)
        go_roundw
        case rel => exact ⟨k + 1, by omega, by go_num, HSo2.out, hB1⟩
        case measure => simp [intOf]; omega
      · have HSr := hid (srtB_false hsr)
        have HC : Hid (∃ k, k < n ∧ ¬ Srt (er ess k)) := hid ⟨k, hlt, hsr⟩
        clear hsr
        go_wp2_with (go_at_call 19; (with_reducible refine (refordered_any Aj nj cj (er ess k) _ HRj.out).mono ?_); rintro r w1 ⟨rfl, hb1⟩; rw [HSr.out]; have hB1 := below_then hBr hb1)
        go_ret2
        exact .inl ⟨HC.out, rfl, hB1⟩
    · obtain rfl : k = n := by omega
      by_cases h64 : 64 < k
      · have hd1 : decide ((64 : Int) < (k : Int)) = true := decide_eq_true (by omega)
        go_wp2
        go_ret2
        exact .inr (.inl ⟨HSo.out, h64, rfl, hBr⟩)
      · have hd1 : decide ((64 : Int) < (k : Int)) = false := decide_eq_false (by omega)
        have HR := hid (H.out.below hBr)
        go_wp2_with (go_at_call 22; (with_reducible refine (refmerge_any A k c ess _ HR.out (by omega) hf).mono ?_); intro r w1 hrc; obtain ⟨A1, c1, out, rfl, hm1, hc1, hr1, hb1⟩ := hrc.open_ hf; have HM := hid hm1; have HRe := hid hr1; clear hrc hm1 hr1; have hB1 := below_then hBr hb1)
        go_ret2
        exact .inr (.inr ⟨HSo.out, by omega, A1, c1, out, rfl, HM.out, hc1, HRe.out, hB1⟩)
theorem merge_want (A : Option Addr) (n c : Nat) (ess : List (List EntR)) (w : World) (h : REnss w A n ess) (hf : totR ess ≤ 40000) (hsm : SmallR ess) :
    Calls Try.prog 12 #[.slice A n c] w fun r w' => WantC w w' n ess r := by
  by_cases hs : ∀ k, k < n → Srt (er ess k)
  · by_cases h64 : n ≤ 64
    · refine (merge_any A n c ess w h hs h64 hf hsm).mono ?_
      rintro r w' ⟨v, out, rfl, hm, hl, hr, hb⟩
      obtain ⟨A1, c1, rfl, hc1, hr1⟩ := hr.len (by omega)
      exact .inr (.inr ⟨hs, h64, A1, c1, out, rfl, hm, hc1, hr1, hb⟩)
    · refine (merge_bad A n c ess w h 13 (fun ⟨k, hk, hn⟩ => absurd (hs k hk) hn) (fun _ => ⟨rfl, .inl (by omega)⟩)).mono ?_
      intro r w' hr
      exact .inr (.inl ⟨hs, by omega, hr⟩)
  · have hb : ∃ k, k < n ∧ ¬ Srt (er ess k) := by
      apply Classical.byContradiction
      intro hc
      exact hs fun k hk => Classical.byContradiction fun hn => hc ⟨k, hk, hn⟩
    refine (merge_bad A n c ess w h 11 (fun _ => rfl) (fun h => absurd h hs)).mono ?_
    intro r w' hr
    exact .inl ⟨hb, hr⟩
end Go.Proofs.Ytnjhiiakpndnnaa
