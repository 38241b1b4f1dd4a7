/- Layer 2: the protocol's lengths: the walk of the statement. -/
import Derived.Test.YtbjpbnflioiccaaVintO
namespace Go.Proofs.Ytbjpbnflioiccaa
open Go.RowKit
set_option linter.unusedVariables false
set_option linter.unusedSimpArgs false

set_option maxHeartbeats 8000000 in
set_option maxRecDepth 100000 in
theorem VintLengths_walk (A : Option Addr) (n c : Nat) (xs : List UInt8) (z : Int) (w : World) (h : RB w A n xs) (hc : n ≤ c) (hsz : n ≤ 140737488351232) (hz : (Lit.int .i64 z).wf = true) :
    Calls Try.prog 7 #[.slice A n c, .int .i64 z] w fun e w' => e = .returned (.bool true) ∧ Below w.heap.size w w' := by
  have hm := wf_i64 hz
  have hl := h.1
  have HL := hid hl
  clear hl
  have HC1 := takelen_any A n c xs w h
  have HC2 := reftakelen_any A n c xs w h
  obtain ⟨tv, tu, te, hT⟩ : ∃ a b d, takeL xs = (a, b, d) := ⟨_, _, _, rfl⟩
  rw [hT] at HC1 HC2
  have HD1 := hid HC1
  have HD2 := hid HC2
  clear HC1 HC2 hT
  obtain ⟨le, hle⟩ : ∃ e, e = lenE z := ⟨_, rfl⟩
  have HLE := hid hle
  clear hle
  go_enter Try.func7, Try.ntmps7
  go_wp2_with (first
    | (go_at_call 26; refine (HD1.out).mono ?_; rintro e w' ⟨rfl, rfl⟩)
    | (go_at_call 27; refine (HD2.out).mono ?_; rintro e w' ⟨rfl, rfl⟩)
    | (go_at_call 28; (with_reducible refine (length_any z _ hm).mono ?_); rintro e w1 ⟨v1, rfl, hown1, hb1⟩; rw [← HLE.out])
    | (go_at_call 29; (with_reducible refine (reflength_any z _ hm).mono ?_); rintro e w2 ⟨v2, rfl, hown2, hb2⟩; rw [← HLE.out]; have hcv1 := OB.conv (hown1.below hb2); have hcv2 := OB.conv hown2; have hB := below_then hb1 hb2; clear hb1 hb2)
    | (go_at_call 17; (with_reducible refine (awake_any _).mono ?_); rintro e w1 ⟨rfl, hb⟩))
  go_ret
  exact ⟨rfl, below_then hB hb⟩
end Go.Proofs.Ytbjpbnflioiccaa
