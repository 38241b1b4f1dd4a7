/- What the masks of layer 3 answer. -/
import Derived.Test.YtmkkenhcldcloaaCrcC
namespace Go.Proofs.Ytmkkenhcldcloaa
open Go.RowKit
set_option linter.unusedVariables false
set_option linter.unusedSimpArgs false

theorem mask_or {s : Nat} (h : s < 4294967296) : bits .or .u32 ((s : Int) / 32768) ((s : Int) * 131072 % 4294967296) = ((s / 32768 + (s % 32768) * 131072 : Nat) : Int) := by
  have e := u32_or_nat (s / 32768) (s * 131072 % 4294967296) (by omega) (by omega)
  rw [show s * 131072 % 4294967296 = (s % 32768) * 2 ^ 17 from by omega, Nat.or_comm, or_low _ _ _ (by omega)] at e
  rw [show (s : Int) * 131072 % 4294967296 = (((s % 32768) * 2 ^ 17 : Nat) : Int) from by omega]
  rw [show ((s : Int) / 32768) = ((s / 32768 : Nat) : Int) from by omega, e]
  omega
theorem unmask_or {y : Nat} (h : y < 4294967296) : bits .or .u32 ((y : Int) * 32768 % 4294967296) ((y : Int) / 131072) = (((y % 131072) * 32768 + y / 131072 : Nat) : Int) := by
  have e := u32_or_nat (y * 32768 % 4294967296) (y / 131072) (by omega) (by omega)
  rw [show y * 32768 % 4294967296 = (y % 131072) * 2 ^ 15 from by omega, or_low _ _ _ (by omega)] at e
  rw [show (y : Int) * 32768 % 4294967296 = (((y % 131072) * 2 ^ 15 : Nat) : Int) from by omega]
  rw [show ((y : Int) / 131072) = ((y / 131072 : Nat) : Int) from by omega, e]
theorem refmask_any (s : Nat) (hs : s < 4294967296) (w : World) :
    Calls Try.prog 14 #[.int .u32 (s : Int)] w fun e w' => e = .returned (.int .u32 (crcMask s : Nat)) ∧ w = w' := by
  have e := mask_or hs
  go_enter Try.func14, Try.ntmps14
  go_wp2
  go_ret
  refine ⟨ret_u32 ?_, rfl⟩
  unfold crcMask
  omega
theorem refunmask_any (s : Nat) (hs : s < 4294967296) (w : World) :
    Calls Try.prog 16 #[.int .u32 (s : Int)] w fun e w' => e = .returned (.int .u32 (crcUnmask s : Nat)) ∧ w = w' := by
  obtain ⟨y, hy⟩ : ∃ y : Nat, y = (s + 1568478504) % 4294967296 := ⟨_, rfl⟩
  have hy' : y < 4294967296 := by omega
  have e := unmask_or hy'
  have e1 : ((s : Int) - 2726488792) % 4294967296 = y := by omega
  have HY := hid hy
  clear hy
  go_enter Try.func16, Try.ntmps16
  go_wp2
  go_ret
  refine ⟨ret_u32 ?_, rfl⟩
  unfold crcUnmask
  rw [← HY.out]
  omega
theorem rot_count_m15 : bits .and .u64 (IntKind.u64.wrap (-15)) 31 = 17 := by decide +kernel
theorem rot_count_15 : bits .and .u64 15 31 = 15 := by decide +kernel
theorem bits_or_comm (k : IntKind) (a b : Int) : bits .or k a b = bits .or k b a := by
  show k.wrap ((BitVec.ofInt k.bits a ||| BitVec.ofInt k.bits b).toNat : Int) = k.wrap ((BitVec.ofInt k.bits b ||| BitVec.ofInt k.bits a).toNat : Int)
  rw [BitVec.or_comm]
theorem rot_m15 (s : Nat) (hs : s < 4294967296) (w : World) :
    Calls Try.prog 18 #[.int .u32 (s : Int), .int .i64 (-15)] w fun e w' => e = .returned (.int .u32 ((s / 32768 + (s % 32768) * 131072 : Nat) : Int)) ∧ w = w' := by
  have e := mask_or hs
  have e1 : bits .or .u32 ((s : Int) * 131072 % 4294967296) ((s : Int) / 32768) = ((s / 32768 + (s % 32768) * 131072 : Nat) : Int) := by
    rw [← e, bits_or_comm]
  have k := rot_count_m15
  go_enter Try.func18, Try.ntmps18
  go_wp2
  go_ret
  exact ⟨ret_u32 rfl, rfl⟩
theorem rot_15 (s : Nat) (hs : s < 4294967296) (w : World) :
    Calls Try.prog 18 #[.int .u32 (s : Int), .int .i64 15] w fun e w' => e = .returned (.int .u32 (((s % 131072) * 32768 + s / 131072 : Nat) : Int)) ∧ w = w' := by
  have e := unmask_or hs
  have k := rot_count_15
  go_enter Try.func18, Try.ntmps18
  go_wp2
  go_ret
  exact ⟨ret_u32 rfl, rfl⟩
theorem mask_any (s : Nat) (hs : s < 4294967296) (w : World) :
    Calls Try.prog 13 #[.int .u32 (s : Int)] w fun e w' => e = .returned (.int .u32 (crcMask s : Nat)) ∧ w = w' := by
  go_enter Try.func13, Try.ntmps13
  go_wp2_with (go_at_call 18; refine (rot_m15 s hs _).mono ?_; rintro e w' ⟨rfl, rfl⟩)
  go_ret
  refine ⟨ret_u32 ?_, rfl⟩
  unfold crcMask
  omega
theorem unmask_any (s : Nat) (hs : s < 4294967296) (w : World) :
    Calls Try.prog 15 #[.int .u32 (s : Int)] w fun e w' => e = .returned (.int .u32 (crcUnmask s : Nat)) ∧ w = w' := by
  obtain ⟨y, hy⟩ : ∃ y : Nat, y = (s + 1568478504) % 4294967296 := ⟨_, rfl⟩
  have hy' : y < 4294967296 := by omega
  have e1 : ((s : Int) - 2726488792) % 4294967296 = y := by omega
  have HY := hid hy
  clear hy
  go_enter Try.func15, Try.ntmps15
  go_wp2_with (go_at_call 18; refine (rot_15 y hy' _).mono ?_; rintro e w' ⟨rfl, rfl⟩)
  go_ret
  refine ⟨ret_u32 ?_, rfl⟩
  unfold crcUnmask
  rw [← HY.out]
  omega
end Go.Proofs.Ytmkkenhcldcloaa
