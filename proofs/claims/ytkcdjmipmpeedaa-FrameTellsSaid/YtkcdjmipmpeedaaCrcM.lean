/- What the masks of layer 3 answer. -/
import Derived.Test.YtkcdjmipmpeedaaCrcC
namespace Go.Proofs.Ytkcdjmipmpeedaa
open Go.RowKit
set_option linter.unusedVariables false
set_option linter.unusedSimpArgs false

theorem mask_or {s : Nat} (h : s < 4294967296) : bits .or .u32 ((s : Int) / 32768) ((s : Int) * 131072 % 4294967296) = ((s / 32768 + (s % 32768) * 131072 : Nat) : Int) := by
  have e := u32_or_nat (s / 32768) (s * 131072 % 4294967296) (by omega) (by omega)
  rw [show s * 131072 % 4294967296 = (s % 32768) * 2 ^ 17 from by omega, Nat.or_comm, or_low _ _ _ (by omega)] at e
  rw [show (s : Int) * 131072 % 4294967296 = (((s % 32768) * 2 ^ 17 : Nat) : Int) from by omega]
  rw [show ((s : Int) / 32768) = ((s / 32768 : Nat) : Int) from by omega, e]
  omega
theorem unmask_or {y : Nat} (h : y < 4294967296) : bits .or .u32 ((y : Int) * 32768 % 4294967296) ((y : Int) / 131072) = (((y % 131072) * 32768 + y / 131072 : Nat) : Int) := by
  have e := u32_or_nat (y * 32768 % 4294967296) (y / 131072) (by omega) (by omega)
  rw [show y * 32768 % 4294967296 = (y % 131072) * 2 ^ 15 from by omega, or_low _ _ _ (by omega)] at e
  rw [show (y : Int) * 32768 % 4294967296 = (((y % 131072) * 2 ^ 15 : Nat) : Int) from by omega]
  rw [show ((y : Int) / 131072) = ((y / 131072 : Nat) : Int) from by omega, e]
theorem refmask_any (s : Nat) (hs : s < 4294967296) (w : World) :
    Calls Try.prog 24 #[.int .u32 (s : Int)] w fun e w' => e = .returned (.int .u32 (crcMask s : Nat)) ∧ w = w' := by
  have e := mask_or hs
  go_enter Try.func24, Try.ntmps24
  go_wp2
  go_ret
  refine ⟨ret_u32 ?_, rfl⟩
  unfold crcMask
  omega
theorem rot_count_m15 : bits .and .u64 (IntKind.u64.wrap (-15)) 31 = 17 := by decide +kernel
theorem rot_count_15 : bits .and .u64 15 31 = 15 := by decide +kernel
theorem bits_or_comm (k : IntKind) (a b : Int) : bits .or k a b = bits .or k b a := by
  show k.wrap ((BitVec.ofInt k.bits a ||| BitVec.ofInt k.bits b).toNat : Int) = k.wrap ((BitVec.ofInt k.bits b ||| BitVec.ofInt k.bits a).toNat : Int)
  rw [BitVec.or_comm]
theorem rot_m15 (s : Nat) (hs : s < 4294967296) (w : World) :
    Calls Try.prog 31 #[.int .u32 (s : Int), .int .i64 (-15)] w fun e w' => e = .returned (.int .u32 ((s / 32768 + (s % 32768) * 131072 : Nat) : Int)) ∧ w = w' := by
  have e := mask_or hs
  have e1 : bits .or .u32 ((s : Int) * 131072 % 4294967296) ((s : Int) / 32768) = ((s / 32768 + (s % 32768) * 131072 : Nat) : Int) := by
    rw [← e, bits_or_comm]
  have k := rot_count_m15
  go_enter Try.func31, Try.ntmps31
  go_wp2
  go_ret
  exact ⟨ret_u32 rfl, rfl⟩
theorem rot_15 (s : Nat) (hs : s < 4294967296) (w : World) :
    Calls Try.prog 31 #[.int .u32 (s : Int), .int .i64 15] w fun e w' => e = .returned (.int .u32 (((s % 131072) * 32768 + s / 131072 : Nat) : Int)) ∧ w = w' := by
  have e := unmask_or hs
  have k := rot_count_15
  go_enter Try.func31, Try.ntmps31
  go_wp2
  go_ret
  exact ⟨ret_u32 rfl, rfl⟩
theorem mask_any (s : Nat) (hs : s < 4294967296) (w : World) :
    Calls Try.prog 20 #[.int .u32 (s : Int)] w fun e w' => e = .returned (.int .u32 (crcMask s : Nat)) ∧ w = w' := by
  go_enter Try.func20, Try.ntmps20
  go_wp2_with (go_at_call 31; refine (rot_m15 s hs _).mono ?_; rintro e w' ⟨rfl, rfl⟩)
  go_ret
  refine ⟨ret_u32 ?_, rfl⟩
  unfold crcMask
  omega
end Go.Proofs.Ytkcdjmipmpeedaa
