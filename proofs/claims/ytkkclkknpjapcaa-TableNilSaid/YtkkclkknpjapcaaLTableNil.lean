/- The walk of one law, with what it wants beyond the shared texts. -/
import Derived.Test.YtkkclkknpjapcaaS16
/-! ### TbT1 -/
namespace Go.Proofs.Ytkkclkknpjapcaa
open Go.RowKit
set_option linter.unusedVariables false
set_option linter.unusedSimpArgs false

set_option maxHeartbeats 16000000 in
set_option maxRecDepth 100000 in
theorem TableNil_walk (A : Option Addr) (n c : Nat) (key : List UInt8) (s : Int) (w : World) (h : RB w A n key) (hc : n ≤ c) (hsz : n ≤ 140737488351232) (hs : (Lit.int .i64 s).wf = true) :
    Calls Try.prog 8 #[.slice A n c, .int .i64 s] w fun e w' => e = .returned (.bool true) ∧ Below w.heap.size w w' := by
  go_enter Try.func8, Try.ntmps8
  go_wp2_with (first
    | (go_at_call 20; (with_reducible refine (tget_nil A n c s _).mono ?_); rintro e w1 ⟨rfl, hb1⟩; have hB1 := below_alloc' hb1 (.cells #[.slice none 0 0, .int .i64 0, .bool false, .int .i64 0, .slice none 0 0] 42))
    | (go_at_call 19; (with_reducible refine (tlen_nil _).mono ?_); rintro e w3 ⟨rfl, rfl⟩)
    | (go_at_call 25; (with_reducible refine (tleast_nil _).mono ?_); rintro e w3 ⟨rfl, rfl⟩)
    | (go_at_call 26; (with_reducible refine (tmost_nil _).mono ?_); rintro e w3 ⟨rfl, rfl⟩)
    | (go_at_call 28; (with_reducible refine (tmay_nil A n c _).mono ?_); rintro e w3 ⟨rfl, rfl⟩)
    | (go_at_call 18; (with_reducible refine (tall_nil _).mono ?_); rintro e w4 ⟨rfl, hb4⟩; have hB4 := below_then hB1 hb4)
    | (go_at_call 22; (with_reducible refine (tlist_nil A n c none 0 0 _).mono ?_); rintro e w5 ⟨rfl, hb5⟩; have hB5 := below_then hB4 hb5)
    | (go_at_call 11; (with_reducible refine (tawake_any _).mono ?_); rintro e w6 ⟨rfl, hb6⟩; have hB6 := below_then hB5 hb6))
  go_ret
  exact ⟨by first | rfl | simp, hB6⟩
end Go.Proofs.Ytkkclkknpjapcaa
