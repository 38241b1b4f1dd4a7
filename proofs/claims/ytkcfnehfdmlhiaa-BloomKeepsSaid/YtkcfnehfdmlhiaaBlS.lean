/- Layer 10: Has: the walks. -/
import Derived.Test.YtkcfnehfdmlhiaaBlR
namespace Go.Proofs.Ytkcfnehfdmlhiaa
open Go.RowKit
set_option linter.unusedVariables false
set_option linter.unusedSimpArgs false

def bitAt (bs : List UInt8) (p : Nat) : Nat := bAt bs (p / 8) / 2 ^ (p % 8) % 2
def hasB (bs xs : List UInt8) : Bool := if bs.length = 0 ∨ 1048576 < bs.length then true else (List.range 6).all fun j => bitAt bs (place (hashN xs) (8 * bs.length) j) == 1
theorem and1_u8 {m : Nat} (hm : m < 256) : bits .and .u8 (m : Int) 1 = ((m % 2 : Nat) : Int) := by
  have h := u8_and_nat m 1 hm (by omega)
  rw [show ((1 : Nat) : Int) = 1 from rfl, Nat.and_one_is_mod] at h
  exact h

theorem and_bit (bs : List UInt8) (p : Nat) : bits .and .u8 ((bAt bs (p / 8) : Int) / 2 ^ (p % 8)) 1 = (bitAt bs p : Int) := by
  have hb := bAt_lt bs (p / 8)
  have h := and1_u8 (m := bAt bs (p / 8) / 2 ^ (p % 8)) (Nat.lt_of_le_of_lt (Nat.div_le_self _ _) hb)
  rw [Int.natCast_ediv, Int.natCast_pow] at h
  exact h
theorem bitAt_two (bs : List UInt8) (p : Nat) : bitAt bs p = 0 ∨ bitAt bs p = 1 := by unfold bitAt; omega
set_option maxHeartbeats 8000000 in
theorem has_any (A : Option Addr) (n c : Nat) (bs : List UInt8) (A' : Option Addr) (m c' : Nat) (xs : List UInt8) (w : World) (h : RB w A n bs) (h' : RB w A' m xs) :
    Calls Try.prog 13 #[.slice A n c, .slice A' m c'] w fun e w' => e = .returned (.bool (hasB bs xs)) ∧ Below w.heap.size w w' := by
  have hl := h.1
  have HL := hid hl
  have hmx := h.2.1
  by_cases h0 : n = 0 ∨ 1048576 < n
  · have e1 : hasB bs xs = true := by unfold hasB; rw [hl, if_pos h0]
    rw [e1]
    clear hl
    rcases h0 with h0 | h0
    all_goals
      go_enter Try.func13, Try.ntmps13
      go_wp2
      go_ret
      exact ⟨rfl, Below.refl _ _⟩
  · have hn0 : ¬ n = 0 := fun e => h0 (.inl e)
    have hn1 : n ≤ 1048576 := by omega
    have hz0 : ((n : Int) == 0) = false := by rw [beq_eq_false_iff_ne]; omega
    have hz1 : ¬ ((1048576 : Int) < (n : Int)) := by omega
    obtain ⟨B, hB1⟩ : ∃ B : Bool, B = hasB bs xs := ⟨_, rfl⟩
    have hB2 : B = (List.range 6).all fun j => bitAt bs (place (hashN xs) (8 * n) j) == 1 := by rw [hB1]; unfold hasB; rw [hl, if_neg h0]
    rw [← hB1]
    clear hB1 h0 hl
    have HBB := hid hB2
    clear hB2
    have hn64 := u64_in n (by omega)
    have hm64 : IntKind.u64.wrap ((n : Int) * 8) = ((8 * n : Nat) : Int) := by rw [IntKind.wrap_u64]; omega
    obtain ⟨M, hM⟩ : ∃ M, M = 8 * n := ⟨_, rfl⟩
    rw [← hM] at hm64
    have HM := hid hM
    have hM0 : 0 < M := by omega
    have hM64 : M < 18446744073709551616 := by omega
    obtain ⟨H, hH⟩ : ∃ H, H = hashN xs := ⟨_, rfl⟩
    have HH := hid hH
    clear hH hM
    go_enter Try.func13, Try.ntmps13
    go_wp2_with (go_at_call 18; (with_reducible refine (places_any A' m c' xs M _ h' hM0 hM64).mono ?_); rintro e w1 ⟨rfl, hb1⟩; rw [← HH.out])
    have h1 := h.below hb1
    go_loop [21] (fun i => ∃ k : Nat, k ≤ 6 ∧ i = .int .i64 k ∧ ∀ j, j < k → bitAt bs (place H M j) = 1) (fun i => 6 - (intOf i).toNat)
    case atStart => exact ⟨0, by omega, rfl, fun j hj => absurd hj (by omega)⟩
    case round =>
      obtain ⟨k, hk, rfl, hall⟩ := hrel
      have HA := hid hall
      clear hall
      by_cases hlt : k < 6
      · have hix := run_index6 (h := H) (m := M) hlt w1
        have hpl := place_lt (h := H) k hM0
        obtain ⟨P, hP⟩ : ∃ P, P = place H M k := ⟨_, rfl⟩
        rw [← hP] at hix hpl
        have HPP := hid hP
        clear hP
        have hP8 : P / 8 < n := by have := HM.out; omega
        obtain ⟨ad, rfl, hcell⟩ := h1.at_ hP8
        have hbit := and_bit bs P
        rcases bitAt_two bs P with ht | ht
        · rw [ht] at hbit
          have hBt : B = false := by
            rw [HBB.out, List.all_eq_false]
            refine ⟨k, by simpa using hlt, ?_⟩
            rw [← HM.out, ← HH.out, ← HPP.out, ht]
            decide
          subst hBt
          go_wp2
          go_ret
          exact ⟨rfl, hb1⟩
        · rw [ht] at hbit
          go_wp2
          go_round
          case rel =>
            refine ⟨k + 1, by omega, by go_num, fun j hj => ?_⟩
            by_cases hjk : j < k
            · exact HA.out j hjk
            · obtain rfl : j = k := by omega
              rw [← HPP.out]
              exact ht
          case measure => simp [intOf]; omega
      · obtain rfl : k = 6 := by omega
        have hBt : B = true := by
          rw [HBB.out]
          rw [List.all_eq_true]
          intro j hj
          have := HA.out j (by simpa using hj)
          rw [HM.out, HH.out] at this
          simpa using this
        subst hBt
        go_wp2
        go_ret
        exact ⟨rfl, hb1⟩
set_option maxHeartbeats 8000000 in
theorem refhas_any (A : Option Addr) (n c : Nat) (bs : List UInt8) (A' : Option Addr) (m c' : Nat) (xs : List UInt8) (w : World) (h : RB w A n bs) (h' : RB w A' m xs) :
    Calls Try.prog 14 #[.slice A n c, .slice A' m c'] w fun e w' => e = .returned (.bool (hasB bs xs)) ∧ Below w.heap.size w w' := by
  have hl := h.1
  have HL := hid hl
  have hmx := h.2.1
  by_cases h0 : n = 0 ∨ 1048576 < n
  · have e1 : hasB bs xs = true := by unfold hasB; rw [hl, if_pos h0]
    rw [e1]
    clear hl
    rcases h0 with h0 | h0
    all_goals
      go_enter Try.func14, Try.ntmps14
      go_wp2
      go_ret
      exact ⟨rfl, Below.refl _ _⟩
  · have hn0 : ¬ n = 0 := fun e => h0 (.inl e)
    have hn1 : n ≤ 1048576 := by omega
    have hz0 : ((n : Int) == 0) = false := by rw [beq_eq_false_iff_ne]; omega
    have hz1 : ¬ ((1048576 : Int) < (n : Int)) := by omega
    obtain ⟨B, hB1⟩ : ∃ B : Bool, B = hasB bs xs := ⟨_, rfl⟩
    have hB2 : B = (List.range 6).all fun j => bitAt bs (place (hashN xs) (8 * n) j) == 1 := by rw [hB1]; unfold hasB; rw [hl, if_neg h0]
    rw [← hB1]
    clear hB1 h0 hl
    have HBB := hid hB2
    clear hB2
    obtain ⟨M, hM⟩ : ∃ M, M = 8 * n := ⟨_, rfl⟩
    have hm8 : (8 : Int) * (n : Int) = (M : Int) := by omega
    have hm64 : IntKind.i64.wrap (M : Int) = (M : Int) := IntWalk.i64_in _ (by omega)
    have HM := hid hM
    have hM0 : 0 < M := by omega
    have hM64 : M < 18446744073709551616 := by omega
    have hMi : -9223372036854775808 ≤ (M : Int) ∧ (M : Int) ≤ 9223372036854775807 := by omega
    obtain ⟨H, hH⟩ : ∃ H, H = hashN xs := ⟨_, rfl⟩
    have HPL : Hid (probesL xs (M : Int) = probesI H M 6) := by unfold probesL; rw [if_neg (by omega), hH]; rfl
    have HH := hid hH
    clear hH hM
    go_enter Try.func14, Try.ntmps14
    go_wp2_with (go_at_call 9; (with_reducible refine (refprobes_any A' m c' xs (M : Int) _ h' hMi).mono ?_); rintro e w1 ⟨v1, rfl, hown1, hb1⟩; rw [HPL.out] at hown1; obtain ⟨g1, d1, rfl, _, _, _⟩ := hown1.form 6 (probesI_len _ _ _) (by omega))
    have h1 := h.below hb1
    go_loop [21] (fun i => ∃ k : Nat, k ≤ 6 ∧ i = .int .i64 k ∧ ∀ j, j < k → bitAt bs (place H M j) = 1) (fun i => 6 - (intOf i).toNat)
    case atStart => exact ⟨0, by omega, rfl, fun j hj => absurd hj (by omega)⟩
    case round =>
      obtain ⟨k, hk, rfl, hall⟩ := hrel
      have HA := hid hall
      clear hall
      by_cases hlt : k < 6
      · have hcl := hown1.cell (probesI_len _ _ _) hlt
        rw [probesI_at hlt] at hcl
        have hpl := place_lt (h := H) k hM0
        obtain ⟨P, hP⟩ : ∃ P, P = place H M k := ⟨_, rfl⟩
        rw [← hP] at hcl hpl
        have HPP := hid hP
        clear hP
        have hP8 : P / 8 < n := by have := HM.out; omega
        have hP9 : (P : Int) ≤ 8388608 := by omega
        obtain ⟨ad, rfl, hcell⟩ := h1.at_ hP8
        have hbit := and_bit bs P
        have hmod64 : IntKind.u64.wrap ((P : Int) % 8) = (P : Int) % 8 := by rw [IntKind.wrap_u64]; omega
        rcases bitAt_two bs P with ht | ht
        · rw [ht] at hbit
          have hBt : B = false := by
            rw [HBB.out, List.all_eq_false]
            refine ⟨k, by simpa using hlt, ?_⟩
            rw [← HM.out, ← HH.out, ← HPP.out, ht]
            decide
          subst hBt
          go_wp2
          go_ret
          exact ⟨rfl, hb1⟩
        · rw [ht] at hbit
          go_wp2
          go_round
          case rel =>
            refine ⟨k + 1, by omega, by go_num, fun j hj => ?_⟩
            by_cases hjk : j < k
            · exact HA.out j hjk
            · obtain rfl : j = k := by omega
              rw [← HPP.out]
              exact ht
          case measure => simp [intOf]; omega
      · obtain rfl : k = 6 := by omega
        have hBt : B = true := by
          rw [HBB.out]
          rw [List.all_eq_true]
          intro j hj
          have := HA.out j (by simpa using hj)
          rw [HM.out, HH.out] at this
          simpa using this
        subst hBt
        go_wp2
        go_ret
        exact ⟨rfl, hb1⟩
theorem BloomHas_walk (A : Option Addr) (n c : Nat) (bs : List UInt8) (A' : Option Addr) (m c' : Nat) (xs : List UInt8) (w : World) (h : RB w A n bs) (hc : n ≤ c) (hsz : n ≤ 140737488351232) (h' : RB w A' m xs) (hc' : m ≤ c') (hsz' : m ≤ 140737488351232) :
    Calls Try.prog 4 #[.slice A n c, .slice A' m c'] w fun e w' => e = .returned (.bool true) ∧ Below w.heap.size w w' := by
  go_enter Try.func4, Try.ntmps4
  go_wp2_with (first
    | (go_at_call 13; (with_reducible refine (has_any A n c bs A' m c' xs _ h h').mono ?_); rintro e w1 ⟨rfl, hb1⟩; have h1 := h.below hb1; have h1' := h'.below hb1)
    | (go_at_call 14; (with_reducible refine (refhas_any A n c bs A' m c' xs _ h1 h1').mono ?_); rintro e w2 ⟨rfl, hb2⟩)
    | (go_at_call 12; (with_reducible refine (awake_any _).mono ?_); rintro e w4 ⟨rfl, rfl⟩))
  go_ret
  exact ⟨rfl, below_then hb1 hb2⟩
end Go.Proofs.Ytkcfnehfdmlhiaa
