/- Layer 2: the protocol's lengths: contracts of TakeLength. -/
import Derived.Test.YtbjpbnflioiccaaVintN
namespace Go.Proofs.Ytbjpbnflioiccaa
open Go.RowKit
set_option linter.unusedVariables false
set_option linter.unusedSimpArgs false

/-- f more bytes may come; k are read, of value v. -/
def takeLF : Nat → Nat → Nat → List UInt8 → Nat × Nat × Nat
  | 0, _, _, _ => (0, 0, 3)
  | f + 1, k, v, xs =>
    if k = xs.length then (0, 0, 5)
    else if bAt xs k < 128 then (v + bAt xs k * 128 ^ k, k + 1, 0)
    else takeLF f (k + 1) (v + bAt xs k % 128 * 128 ^ k) xs
def takeL (xs : List UInt8) : Nat × Nat × Nat := takeLF 4 0 0 xs
theorem takeLF_short {f k v : Nat} {xs : List UInt8} (h : k = xs.length) : takeLF (f + 1) k v xs = (0, 0, 5) := by unfold takeLF; rw [if_pos h]
theorem takeLF_last {f k v : Nat} {xs : List UInt8} (h : k ≠ xs.length) (h' : bAt xs k < 128) : takeLF (f + 1) k v xs = (v + bAt xs k * 128 ^ k, k + 1, 0) := by unfold takeLF; rw [if_neg h, if_pos h']
theorem takeLF_more {f k v : Nat} {xs : List UInt8} (h : k ≠ xs.length) (h' : ¬ bAt xs k < 128) : takeLF (f + 1) k v xs = takeLF f (k + 1) (v + bAt xs k % 128 * 128 ^ k) xs := by
  conv => lhs; unfold takeLF
  rw [if_neg h, if_neg h']
theorem i64_or_nat (a b : Nat) (ha : a < 9223372036854775808) (hb : b < 9223372036854775808) : bits .or .i64 (a : Int) (b : Int) = ((a ||| b : Nat) : Int) := by
  have hx : a ||| b < 2 ^ 63 := Nat.or_lt_two_pow (by omega) (by omega)
  show IntKind.i64.wrap ((BitVec.ofInt 64 (a : Int) ||| BitVec.ofInt 64 (b : Int)).toNat : Int) = _
  rw [BitVec.toNat_or, ofInt_u64 a (by omega), ofInt_u64 b (by omega)]
  exact IntWalk.i64_in _ (by omega)
theorem or_at {v x k : Nat} (hv : v < 128 ^ k) (hx : x < 128) (hk : k < 4) : bits .or .i64 (v : Int) ((x * 128 ^ k : Nat) : Int) = ((v + x * 128 ^ k : Nat) : Int) := by
  have hp : 128 ^ k ≤ 128 ^ 3 := Nat.pow_le_pow_right (by omega) (by omega)
  have h1 : x * 128 ^ k ≤ 127 * 128 ^ 3 := Nat.mul_le_mul (by omega) hp
  have hp3 : 128 ^ 3 = 2097152 := by decide
  rw [i64_or_nat _ _ (by omega) (by omega)]
  have e : x * 128 ^ k ||| v = x * 128 ^ k + v := by
    have h128 : (128 : Nat) ^ k = 2 ^ (7 * k) := by rw [Nat.pow_mul]
    rw [h128] at hv ⊢
    have := Nat.two_pow_add_eq_or_of_lt (i := 7 * k) (b := v) hv x
    rw [Nat.mul_comm]
    exact this.symm
  rw [Nat.or_comm, e, Nat.add_comm]
theorem seven {k : Nat} (hk : k < 4) : IntKind.i64.wrap (7 * (k : Int)) = 7 * (k : Int) := IntWalk.i64_in _ (by omega)
theorem or_at' {v y k : Nat} (hv : v < 128 ^ k) (hk : k < 4) : bits .or .i64 (v : Int) (wrap64 ((y : Int) % 128 * 2 ^ (7 * k))) = ((v + y % 128 * 128 ^ k : Nat) : Int) := by
  have hx := Nat.mod_lt y (show 128 > 0 by omega)
  have hp : 128 ^ k ≤ 128 ^ 3 := Nat.pow_le_pow_right (by omega) (by omega)
  have h1 : y % 128 * 128 ^ k ≤ 127 * 128 ^ 3 := Nat.mul_le_mul (by omega) hp
  have hp3 : (128 : Nat) ^ 3 = 2097152 := by decide
  have h128 : (128 : Nat) ^ k = 2 ^ (7 * k) := by rw [Nat.pow_mul]
  have e : (y : Int) % 128 * 2 ^ (7 * k) = ((y % 128 * 128 ^ k : Nat) : Int) := by rw [h128]; push_cast; rfl
  rw [e, show wrap64 ((y % 128 * 128 ^ k : Nat) : Int) = ((y % 128 * 128 ^ k : Nat) : Int) from by unfold wrap64; omega]
  exact or_at hv hx hk
theorem pow_step {v x k : Nat} (hv : v < 128 ^ k) (hx : x < 128) : v + x * 128 ^ k < 128 ^ (k + 1) := by
  have : x * 128 ^ k ≤ 127 * 128 ^ k := Nat.mul_le_mul_right _ (by omega)
  rw [Nat.pow_succ]; omega
set_option maxHeartbeats 4000000 in
set_option maxRecDepth 100000 in
theorem reftakelen_any (A : Option Addr) (n c : Nat) (xs : List UInt8) (w : World) (h : RB w A n xs) :
    Calls Try.prog 27 #[.slice A n c] w fun e w' => e = .returned (.tuple #[.int .i64 ((takeL xs).1 : Nat), .int .i64 ((takeL xs).2.1 : Nat), .int .i64 ((takeL xs).2.2 : Nat)]) ∧ w = w' := by
  have hm := h.max
  have hl := h.1
  have HL := hid hl
  clear hl
  go_enter Try.func27, Try.ntmps27
  go_wp2
  go_loop [5, 7] (fun v i => ∃ k t : Nat, k ≤ 4 ∧ k ≤ n ∧ v = .int .i64 t ∧ i = .int .i64 k ∧ t < 128 ^ k ∧ takeLF (4 - k) k t xs = takeL xs) (fun v i => 4 - (intOf i).toNat)
  case atStart => exact ⟨0, 0, by omega, Nat.zero_le _, rfl, rfl, by simp, rfl⟩
  case round =>
    obtain ⟨k, t, hk, hkn, rfl, rfl, ht, hr⟩ := hrel
    have HR := hid hr
    clear hr
    have hb := bAt_lt xs k
    by_cases h4 : k < 4
    · obtain ⟨f, hf⟩ : ∃ f, 4 - k = f + 1 := ⟨3 - k, by omega⟩
      by_cases hlt : k < n
      · obtain ⟨ad, rfl, hc⟩ := h.at_ hlt
        have hs7 := seven h4
        have hne : ((k : Int) == (n : Int)) = false := by rw [beq_eq_false_iff_ne]; omega
        have ha := and127 xs k
        have ho := or_at' (y := bAt xs k) ht h4
        by_cases hbig : 128 ≤ bAt xs k
        · go_wp2
          go_round
          case rel => exact ⟨k + 1, t + bAt xs k % 128 * 128 ^ k, by omega, by omega, congrArg _ (by push_cast; rfl), by go_num, pow_step ht (Nat.mod_lt _ (by omega)), by
            rw [← HR.out, hf, takeLF_more (by rw [HL.out]; omega) (by omega), show 4 - (k + 1) = f from by omega]⟩
          case measure => simp [intOf]; omega
        · go_wp2
          go_ret3
          refine ⟨ret3 ?_ ?_ ?_, rfl⟩ <;> rw [← HR.out, hf, takeLF_last (by rw [HL.out]; omega) (by omega)]
          · show _ = ((t + bAt xs k * 128 ^ k : Nat) : Int)
            push_cast
            rw [Int.emod_eq_of_lt (by omega) (by omega)]
          · show _ = ((k + 1 : Nat) : Int)
            omega
          · rfl
      · obtain rfl : k = n := by omega
        go_wp2
        go_ret3
        refine ⟨ret3 ?_ ?_ ?_, rfl⟩ <;> rw [← HR.out, hf, takeLF_short (by rw [HL.out])] <;> rfl
    · obtain rfl : k = 4 := by omega
      go_wp2
      go_ret3
      refine ⟨ret3 ?_ ?_ ?_, rfl⟩ <;> rw [← HR.out] <;> rfl

set_option maxHeartbeats 4000000 in
set_option maxRecDepth 100000 in
theorem takelen_any (A : Option Addr) (n c : Nat) (xs : List UInt8) (w : World) (h : RB w A n xs) :
    Calls Try.prog 26 #[.slice A n c] w fun e w' => e = .returned (.tuple #[.int .i64 ((takeL xs).1 : Nat), .int .i64 ((takeL xs).2.1 : Nat), .int .i64 ((takeL xs).2.2 : Nat)]) ∧ w = w' := by
  have hm := h.max
  have hl := h.1
  have HL := hid hl
  clear hl
  go_enter Try.func26, Try.ntmps26
  go_wp2
  refine wp_scope_ghost 0 (fun m a' w' => w' = w ∧ ∃ (k t : Nat) (u7 u8 u9 u10 u11 u12 u13 u14 u15 u16 u17 u18 u19 u20 u21 u22 u23 u24 u25 u26 u27 u28 u29 u30 u31 u32 u33 u34 u35 : Value), a' = { tmps := #[.slice A n c, undef, .int .i64 0, .int .i64 0, .int .i64 0, .int .i64 t, .int .i64 k, u7, u8, u9, u10, u11, u12, u13, u14, u15, u16, u17, u18, u19, u20, u21, u22, u23, u24, u25, u26, u27, u28, u29, u30, u31, u32, u33, u34, u35], defers := [] } ∧ k ≤ 4 ∧ k ≤ n ∧ t < 128 ^ k ∧ takeLF (4 - k) k t xs = takeL xs ∧ m = 4 - k) rfl ?_ ?_
  · rintro m a' w' ⟨rfl, k, t, u7, u8, u9, u10, u11, u12, u13, u14, u15, u16, u17, u18, u19, u20, u21, u22, u23, u24, u25, u26, u27, u28, u29, u30, u31, u32, u33, u34, u35, rfl, hk, hkn, ht, hr, rfl⟩
    have HR := hid hr
    clear hr
    have hb := bAt_lt xs k
    by_cases h4 : k < 4
    · obtain ⟨f, hf⟩ : ∃ f, 4 - k = f + 1 := ⟨3 - k, by omega⟩
      by_cases hlt : k < n
      · obtain ⟨ad, rfl, hc⟩ := h.at_ hlt
        have hs7 := seven h4
        have hne : ((k : Int) == (n : Int)) = false := by rw [beq_eq_false_iff_ne]; omega
        have hn4 : ((k : Int) == 4) = false := by rw [beq_eq_false_iff_ne]; omega
        have ha := and127 xs k
        have ho := or_at' (y := bAt xs k) ht h4
        by_cases hbig : 128 ≤ bAt xs k
        · go_wp2
          refine wp_goto_k (Jumped.mk (4 - (k + 1)) (by omega) ⟨rfl, k + 1, t + bAt xs k % 128 * 128 ^ k, _, _, _, _, _, _, _, _, _, _, _, _, _, _, _, _, _, _, _, _, _, _, _, _, _, _, _, _, _, rfl, by omega, by omega, pow_step ht (Nat.mod_lt _ (by omega)), ?_, rfl⟩)
          rw [← HR.out, hf, takeLF_more (by rw [HL.out]; omega) (by omega), show 4 - (k + 1) = f from by omega]
        · go_wp2
          simp only [Exit.jump]
          go_ret3
          refine ⟨ret3 ?_ ?_ ?_, rfl⟩ <;> rw [← HR.out, hf, takeLF_last (by rw [HL.out]; omega) (by omega)]
          · show _ = ((t + bAt xs k * 128 ^ k : Nat) : Int)
            push_cast
            rw [Int.emod_eq_of_lt (by omega) (by omega)]
          · show _ = ((k + 1 : Nat) : Int)
            omega
          · rfl
      · obtain rfl : k = n := by omega
        have hn4 : ((k : Int) == 4) = false := by rw [beq_eq_false_iff_ne]; omega
        go_wp2
        simp only [Exit.jump]
        go_ret3
        refine ⟨ret3 ?_ ?_ ?_, rfl⟩ <;> rw [← HR.out, hf, takeLF_short (by rw [HL.out])] <;> rfl
    · obtain rfl : k = 4 := by omega
      go_wp2
      simp only [Exit.jump]
      go_ret3
      refine ⟨ret3 ?_ ?_ ?_, rfl⟩ <;> rw [← HR.out] <;> rfl
  · intro hpass
    go_wp2
    refine wp_label_k (by assumption) (hpass 4 _ _ ?_)
    exact ⟨rfl, 0, 0, _, _, _, _, _, _, _, _, _, _, _, _, _, _, _, _, _, _, _, _, _, _, _, _, _, _, _, _, _, rfl, by omega, by omega, by simp, rfl, rfl⟩
end Go.Proofs.Ytbjpbnflioiccaa
