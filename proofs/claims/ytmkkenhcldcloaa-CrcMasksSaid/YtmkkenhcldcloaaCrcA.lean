/- Layer 3: the sum that every program must know; the walks of its statements. -/
import Derived.Test.YtmkkenhcldcloaaCrcM
import Derived.Test.YtmkkenhcldcloaaO
namespace Go.Proofs.Ytmkkenhcldcloaa
open Go.RowKit
set_option linter.unusedVariables false
set_option linter.unusedSimpArgs false

theorem known_sum : crcMore 0 [49, 50, 51, 52, 53, 54, 55, 56, 57] = 3808858755 := by decide +kernel
theorem awake_any (w : World) : Calls Try.prog 12 #[] w fun e w' => e = .returned (.bool true) ∧ Below w.heap.size w w' := by
  have kc := fun (w : World) (C : Array Value) (n c : Nat) => Lib.run_convert_bytes_const (P := Try.prog) w 23 5 C n c Try.underlying23 Try.underlying5
  have hr := RB.lit w [49, 50, 51, 52, 53, 54, 55, 56, 57] #[.int .u8 49, .int .u8 50, .int .u8 51, .int .u8 52, .int .u8 53, .int .u8 54, .int .u8 55, .int .u8 56, .int .u8 57] 5 (9, 10) rfl (by decide)
  have ks := known_sum
  go_enter Try.func12, Try.ntmps12
  go_wp2_with (go_at_call 8; refine (sum_any _ _ _ _ _ hr).mono ?_; rintro e w' ⟨rfl, rfl⟩)
  go_ret
  exact ⟨rfl, (Below.refl _ _).alloc (Nat.le_refl _) _⟩
theorem CrcSums_walk (a : Int) (A : Option Addr) (n c : Nat) (xs : List UInt8) (w : World) (ha : (Lit.int .u32 a).wf = true) (h : RB w A n xs) (hc : n ≤ c) (hsz : n ≤ 140737488351232) :
    Calls Try.prog 3 #[.int .u32 a, .slice A n c] w fun e w' => e = .returned (.bool true) ∧ Below w.heap.size w w' := by
  obtain ⟨h0, h1⟩ := wf_u32 ha
  obtain ⟨s, rfl⟩ := Int.eq_ofNat_of_zero_le h0
  have hs : s < 4294967296 := by omega
  clear ha h0 h1
  go_enter Try.func3, Try.ntmps3
  go_wp2_with (first
    | (go_at_call 8; refine (sum_any _ _ _ xs _ h).mono ?_; rintro e w' ⟨rfl, rfl⟩)
    | (go_at_call 9; refine (refsum_any _ _ _ xs _ h).mono ?_; rintro e w' ⟨rfl, rfl⟩)
    | (go_at_call 10; refine (more_any s hs _ _ _ xs _ h).mono ?_; rintro e w' ⟨rfl, rfl⟩)
    | (go_at_call 11; refine (refmore_any s hs _ _ _ xs _ h).mono ?_; rintro e w' ⟨rfl, rfl⟩)
    | (go_at_call 12; refine (awake_any _).mono ?_; rintro e w' ⟨rfl, hb⟩))
  go_ret
  exact ⟨rfl, hb⟩
theorem CrcMasks_walk (a : Int) (w : World) (ha : (Lit.int .u32 a).wf = true) :
    Calls Try.prog 7 #[.int .u32 a] w fun e w' => e = .returned (.bool true) ∧ Below w.heap.size w w' := by
  obtain ⟨h0, h1⟩ := wf_u32 ha
  obtain ⟨s, rfl⟩ := Int.eq_ofNat_of_zero_le h0
  have hs : s < 4294967296 := by omega
  have m1 := crcMask_lt s
  have m2 := crcUnmask_lt s
  have m3 := crcMask_unmask hs
  have m4 := crcUnmask_mask hs
  clear ha h0 h1
  go_enter Try.func7, Try.ntmps7
  go_wp2_with (first
    | (go_at_call 13; refine (mask_any _ ?_ _).mono ?_; (first | (with_reducible exact hs) | (with_reducible exact m2)); rintro e w' ⟨rfl, rfl⟩)
    | (go_at_call 14; refine (refmask_any s hs _).mono ?_; rintro e w' ⟨rfl, rfl⟩)
    | (go_at_call 15; refine (unmask_any _ ?_ _).mono ?_; (first | (with_reducible exact hs) | (with_reducible exact m1)); rintro e w' ⟨rfl, rfl⟩)
    | (go_at_call 16; refine (refunmask_any s hs _).mono ?_; rintro e w' ⟨rfl, rfl⟩)
    | (go_at_call 12; refine (awake_any _).mono ?_; rintro e w' ⟨rfl, hb⟩))
  go_ret
  exact ⟨rfl, hb⟩
end Go.Proofs.Ytmkkenhcldcloaa
