/- What the functions of layer 3 answer: the walks through crc and its document. -/
import Derived.Test.YtkcdjmipmpeedaaProg
import Derived.Test.YtkcdjmipmpeedaaW
import Derived.Test.YtkcdjmipmpeedaaCrc
import Derived.Handy
namespace Go.Proofs.Ytkcdjmipmpeedaa
open Go.RowKit
set_option linter.unusedVariables false
set_option linter.unusedSimpArgs false

theorem crcR_odd {s : Nat} (h : s % 2 = 1) : crcR s = (s / 2) ^^^ 2197175160 := by unfold crcR; rw [if_pos h]
theorem crcR_even {s : Nat} (h : ¬ s % 2 = 1) : crcR s = s / 2 := by unfold crcR; rw [if_neg h]
theorem and1_odd {t : Nat} (ht : t < 4294967296) (h : t % 2 = 1) : bits .and .u32 (t : Int) 1 = 1 := by
  have e := u32_and_nat t 1 ht (by omega)
  rw [Nat.and_one_is_mod, h] at e
  exact e
theorem and1_even {t : Nat} (ht : t < 4294967296) (h : ¬ t % 2 = 1) : bits .and .u32 (t : Int) 1 = 0 := by
  have e := u32_and_nat t 1 ht (by omega)
  rw [Nat.and_one_is_mod, show t % 2 = 0 from by omega] at e
  exact e
theorem xor_poly {t : Nat} (ht : t < 4294967296) (h : t % 2 = 1) : bits .xor .u32 ((t : Int) / 2) 2197175160 = (crcR t : Int) := by
  rw [crcR_odd h]
  exact u32_xor_nat (t / 2) 2197175160 (by omega) (by omega)
theorem shr_one {t : Nat} (h : ¬ t % 2 = 1) : (t : Int) / 2 = (crcR t : Int) := by rw [crcR_even h]; omega
theorem ret_u32 {a b : Int} (h : a = b) : Ending.returned (.int .u32 a) = .returned (.int .u32 b) := by rw [h]

set_option maxRecDepth 100000 in
theorem step_any (s x : Nat) (hs : s < 4294967296) (hx : x < 256) (w : World) :
    Calls Try.prog 34 #[.int .u32 (s : Int), .int .u8 (x : Int)] w fun e w' => e = .returned (.int .u32 (crcStep s x : Nat)) ∧ w = w' := by
  have hx1 : s ^^^ x < 4294967296 := Nat.xor_lt_two_pow (n := 32) (by omega) (by omega)
  have e1 := u32_xor_nat s x hs (by omega)
  go_enter Try.func34, Try.ntmps34
  go_wp2
  refine wp_scope_ghost 0 (fun m a' w' => w' = w ∧ ∃ (n t : Nat) (u6 u7 u8 u9 u10 u11 u12 u13 u14 u15 u16 u17 u18 u19 u20 u21 u22 u23 : Value), a' = { tmps := #[.int .u32 t, .int .u8 x, undef, undef, .int .u32 0, .int .i64 n, u6, u7, u8, u9, u10, u11, u12, u13, u14, u15, u16, u17, u18, u19, u20, u21, u22, u23], defers := [] } ∧ crcRs n t = crcStep s x ∧ t < 4294967296 ∧ 1 ≤ n ∧ n ≤ 8 ∧ m = n) rfl ?_ ?_
  · rintro m a' w' ⟨rfl, n, t, u6, u7, u8, u9, u10, u11, u12, u13, u14, u15, u16, u17, u18, u19, u20, u21, u22, u23, rfl, hr, ht, hn, hn8, rfl⟩
    have hlt := crcR_lt ht
    obtain ⟨k, rfl⟩ : ∃ k, m = k + 1 := ⟨m - 1, by omega⟩
    have HR := hid hr
    clear hr
    by_cases ho : t % 2 = 1
    · have e2 := and1_odd ht ho
      have e3 := xor_poly ht ho
      by_cases h1 : k = 0
      · subst h1
        go_wp2
        simp only [Exit.jump]
        go_ret
        exact ⟨ret_u32 (by rw [← HR.out]; rfl), rfl⟩
      · go_wp2
        refine wp_goto_k (Jumped.mk k (by omega) ⟨rfl, k, crcR t, _, _, _, _, _, _, _, _, _, _, _, _, _, _, _, _, _, _, rfl, HR.out, hlt, by omega, by omega, rfl⟩)
    · have e2 := and1_even ht ho
      have e3 := shr_one ho
      by_cases h1 : k = 0
      · subst h1
        go_wp2
        simp only [Exit.jump]
        go_ret
        exact ⟨ret_u32 (by rw [← HR.out]; rfl), rfl⟩
      · go_wp2
        refine wp_goto_k (Jumped.mk k (by omega) ⟨rfl, k, crcR t, _, _, _, _, _, _, _, _, _, _, _, _, _, _, _, _, _, _, rfl, HR.out, hlt, by omega, by omega, rfl⟩)
  · intro hpass
    go_wp2
    refine wp_label_k (by assumption) (hpass 8 _ _ ?_)
    exact ⟨rfl, 8, s ^^^ x, _, _, _, _, _, _, _, _, _, _, _, _, _, _, _, _, _, _, rfl, rfl, hx1, by omega, by omega, rfl⟩

theorem inv_u32 (s : Nat) (h : s < 4294967296) : bits .xor .u32 4294967295 (s : Int) = (crcInv s : Int) := by
  have e := u32_xor_nat 4294967295 s (by omega) h
  have : 4294967295 ^^^ s = crcInv s := by
    rw [show crcInv s = 2 ^ 32 - (s + 1) from by unfold crcInv; omega, show (4294967295 : Nat) = 2 ^ 32 - 1 from rfl]
    apply Nat.eq_of_testBit_eq
    intro i
    rw [Nat.testBit_xor, Nat.testBit_two_pow_sub_one, Nat.testBit_two_pow_sub_succ h]
    by_cases hi : i < 32
    · simp [hi]
    · simp only [hi, decide_false, Bool.false_and, Bool.false_xor]
      have h2 : 2 ^ 32 ≤ 2 ^ i := Nat.pow_le_pow_right (by decide) (Nat.le_of_not_lt hi)
      exact Nat.testBit_lt_two_pow (Nat.lt_of_lt_of_le h h2)
  rw [this] at e
  exact e
theorem u32_signed : IntKind.u32.signed = false := rfl
theorem u32_max : IntKind.u32.max = 4294967295 := rfl
theorem more_any (s : Nat) (hs : s < 4294967296) (A : Option Addr) (n c : Nat) (xs : List UInt8) (w : World) (h : RB w A n xs) :
    Calls Try.prog 32 #[.int .u32 (s : Int), .slice A n c] w fun e w' => e = .returned (.int .u32 (crcMore s xs : Nat)) ∧ w = w' := by
  have hl := h.len
  have hm := h.max
  have i0 := inv_u32 s hs
  have hi := crcInv_lt s
  have q1 := u32_signed
  have q2 := u32_max
  go_enter Try.func32, Try.ntmps32
  go_wp2
  go_loop [0, 11] (fun t i => ∃ k : Nat, k ≤ n ∧ i = .int .i64 k ∧ t = .int .u32 (crcFold (crcInv s) (xs.take k) : Nat)) (fun _ i => n - (intOf i).toNat)
  case atStart => exact ⟨0, Nat.zero_le _, rfl, rfl⟩
  case round =>
    obtain ⟨k, hk, rfl, rfl⟩ := hrel
    have hf := crcFold_lt (xs.take k) hi
    by_cases hlt : k < n
    · obtain ⟨ad, rfl, hc⟩ := h.at_ hlt
      have hb := bAt_lt xs k
      go_wp2_with (go_at_call 34; refine (step_any _ _ hf hb _).mono ?_; rintro e w' ⟨rfl, rfl⟩)
      go_round
      case rel =>
        refine ⟨k + 1, by omega, by go_num, ?_⟩
        rw [List.take_succ_eq_append_getElem (by omega), crcFold_snoc, bAt_get (by omega)]
      case measure => simp [intOf]; omega
    · have i1 := inv_u32 _ hf
      go_wp2
      go_ret
      refine ⟨ret_u32 ?_, rfl⟩
      unfold crcMore
      rw [List.take_of_length_le (by omega)]

theorem refmore_any (s : Nat) (hs : s < 4294967296) (A : Option Addr) (n c : Nat) (xs : List UInt8) (w : World) (h : RB w A n xs) :
    Calls Try.prog 33 #[.int .u32 (s : Int), .slice A n c] w fun e w' => e = .returned (.int .u32 (crcMore s xs : Nat)) ∧ w = w' := by
  have hl := h.len
  have hm := h.max
  have i0 := inv_u32 s hs
  have hi := crcInv_lt s
  have q1 := u32_signed
  have q2 := u32_max
  go_enter Try.func33, Try.ntmps33
  go_wp2
  go_loop [0, 11] (fun t i => ∃ k : Nat, k ≤ n ∧ i = .int .i64 k ∧ t = .int .u32 (crcFold (crcInv s) (xs.take k) : Nat)) (fun _ i => n - (intOf i).toNat)
  case atStart => exact ⟨0, Nat.zero_le _, rfl, rfl⟩
  case round =>
    obtain ⟨k, hk, rfl, rfl⟩ := hrel
    have hf := crcFold_lt (xs.take k) hi
    by_cases hlt : k < n
    · obtain ⟨ad, rfl, hc⟩ := h.at_ hlt
      have hb := bAt_lt xs k
      have e1 := u32_xor_nat _ _ hf (show bAt xs k < 4294967296 by omega)
      have hx1 : crcFold (crcInv s) (xs.take k) ^^^ bAt xs k < 4294967296 := Nat.xor_lt_two_pow (n := 32) (by omega) (by omega)
      go_wp2
      go_loop [0, 19] (fun t i => ∃ j m : Nat, j ≤ 8 ∧ i = .int .i64 j ∧ t = .int .u32 (m : Nat) ∧ m < 4294967296 ∧ crcRs (8 - j) m = crcStep (crcFold (crcInv s) (xs.take k)) (bAt xs k)) (fun _ i => 8 - (intOf i).toNat)
      case atStart => exact ⟨0, _, by omega, rfl, rfl, hx1, rfl⟩
      case round =>
        obtain ⟨j, m, hj, rfl, rfl, hm8, hr⟩ := hrel
        have HR := hid hr
        clear hr
        have hmr := crcR_lt hm8
        by_cases hj8 : j < 8
        · have HS : Hid (crcRs (8 - (j + 1)) (crcR m) = crcStep (crcFold (crcInv s) (xs.take k)) (bAt xs k)) := by
            rw [← HR.out, show 8 - j = (8 - (j + 1)) + 1 from by omega]
            rfl
          by_cases ho : m % 2 = 1
          · have e2 := and1_odd hm8 ho
            have e3 := xor_poly hm8 ho
            go_wp2
            go_round
            case rel => exact ⟨j + 1, crcR m, by omega, by go_num, rfl, hmr, HS.out⟩
            case measure => simp [intOf]; omega
          · have e2 := and1_even hm8 ho
            have e3 := shr_one ho
            go_wp2
            go_round
            case rel => exact ⟨j + 1, crcR m, by omega, by go_num, rfl, hmr, HS.out⟩
            case measure => simp [intOf]; omega
        · obtain rfl : j = 8 := by omega
          go_wp2
          go_round
          case rel =>
            refine ⟨k + 1, by omega, by go_num, ?_⟩
            rw [List.take_succ_eq_append_getElem (by omega), crcFold_snoc, ← bAt_get (by omega), ← HR.out]
            rfl
          case measure => simp [intOf]; omega
    · have i1 := inv_u32 _ hf
      go_wp2
      go_ret
      refine ⟨ret_u32 ?_, rfl⟩
      unfold crcMore
      rw [List.take_of_length_le (by omega)]
theorem sum_any (A : Option Addr) (n c : Nat) (xs : List UInt8) (w : World) (h : RB w A n xs) :
    Calls Try.prog 21 #[.slice A n c] w fun e w' => e = .returned (.int .u32 (crcMore 0 xs : Nat)) ∧ w = w' := by
  go_enter Try.func21, Try.ntmps21
  go_wp2_with (go_at_call 32; refine (more_any 0 (by omega) _ _ _ xs _ h).mono ?_; rintro e w' ⟨rfl, rfl⟩)
  go_ret
  exact ⟨rfl, rfl⟩
theorem refsum_any (A : Option Addr) (n c : Nat) (xs : List UInt8) (w : World) (h : RB w A n xs) :
    Calls Try.prog 25 #[.slice A n c] w fun e w' => e = .returned (.int .u32 (crcMore 0 xs : Nat)) ∧ w = w' := by
  go_enter Try.func25, Try.ntmps25
  go_wp2_with (go_at_call 33; refine (refmore_any 0 (by omega) _ _ _ xs _ h).mono ?_; rintro e w' ⟨rfl, rfl⟩)
  go_ret
  exact ⟨rfl, rfl⟩
end Go.Proofs.Ytkcdjmipmpeedaa
