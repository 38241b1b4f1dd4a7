/- What the functions of layer 2 answer: Take and its like. -/
import Derived.Test.YteediedhofapkaaProg
import Derived.Test.YteediedhofapkaaB
import Derived.Test.YteediedhofapkaaVint
import Derived.Handy
namespace Go.Proofs.Yteediedhofapkaa
open Go.RowKit
set_option linter.unusedVariables false
set_option linter.unusedSimpArgs false

theorem ret3 {k1 k2 k3 : IntKind} {a b c a' b' c' : Int} (h1 : a = a') (h2 : b = b') (h3 : c = c') : Ending.returned (.tuple #[.int k1 a, .int k2 b, .int k3 c]) = .returned (.tuple #[.int k1 a', .int k2 b', .int k3 c']) := by rw [h1, h2, h3]
theorem and127 (xs : List UInt8) (j : Nat) : bits .and .u8 (bAt xs j : Int) 127 = ((bAt xs j % 128 : Nat) : Int) := by
  have h := u8_and_nat (bAt xs j) 127 (bAt_lt _ _) (by omega)
  rw [show ((127 : Nat) : Int) = 127 from rfl] at h
  rw [h, show (127 : Nat) = 2 ^ 7 - 1 from rfl, Nat.and_two_pow_sub_one_eq_mod]
theorem or_shl7 {v x : Nat} (hv : v < 144115188075855872) (hx : x < 128) : bits .or .u64 ((v : Int) * 128) (x : Int) = ((x + 128 * v : Nat) : Int) := by
  have h := u64_or_nat (v * 128) x (by omega) (by omega)
  have e : v * 128 ||| x = v * 128 + x := by
    have := Nat.two_pow_add_eq_or_of_lt (i := 7) (b := x) hx v
    rw [Nat.mul_comm]
    exact this.symm
  rw [e] at h
  rw [show (v : Int) * 128 = ((v * 128 : Nat) : Int) from by omega, h]
  omega
theorem or_shl7' {v y : Nat} (hv : v < 144115188075855872) : bits .or .u64 ((v : Int) * 128) ((y : Int) % 128) = ((y % 128 + 128 * v : Nat) : Int) := by
  have := or_shl7 hv (Nat.mod_lt y (show 128 > 0 by omega))
  rw [← this]
  rfl
set_option maxHeartbeats 4000000 in
set_option maxRecDepth 100000 in
theorem take_any (A : Option Addr) (n c : Nat) (xs : List UInt8) (w : World) (h : RB w A n xs) :
    Calls Try.prog 39 #[.slice A n c] w fun e w' => e = .returned (.tuple #[.int .u64 ((takeU xs).1 : Nat), .int .i64 ((takeU xs).2.1 : Nat), .int .i64 ((takeU xs).2.2 : Nat)]) ∧ w = w' := by
  have hm := h.max
  have hl := h.1
  have HL := hid hl
  clear hl
  go_enter Try.func39, Try.ntmps39
  go_wp2
  go_loop [5] (fun i => ∃ k : Nat, k ≤ n ∧ i = .int .i64 k ∧ ∀ j, j < k → 128 ≤ bAt xs j) (fun i => n - (intOf i).toNat)
  case atStart => exact ⟨0, Nat.zero_le _, rfl, fun j hj => absurd hj (by omega)⟩
  case round =>
    obtain ⟨k, hk, rfl, hall⟩ := hrel
    have HA := hid hall
    clear hall
    have hb := bAt_lt xs k
    by_cases hlt : k < n
    · obtain ⟨ad, rfl, hc⟩ := h.at_ hlt
      by_cases hbig : 128 ≤ bAt xs k
      · go_wp2
        go_round
        case rel => exact ⟨k + 1, by omega, by go_num, fun j hj => by
            rcases Nat.lt_or_ge j k with h1 | h1
            · exact HA.out j h1
            · obtain rfl : j = k := by omega
              exact hbig⟩
        case measure => simp [intOf]; omega
      · have hlead : leadU xs = k := leadU_eq xs k (by rw [HL.out]; exact hk) HA.out (.inr (by omega))
        have hne : (k : Int) ≠ (n : Int) := by omega
        by_cases hbad : 9 < k ∨ (k = 9 ∧ 1 < bAt xs k) ∨ (0 < k ∧ bAt xs k = 0)
        · have HT : Hid (takeU xs = (0, 0, 3)) := by
            unfold Hid takeU
            rw [hlead, HL.out, if_neg (by omega), if_pos hbad]
          have HLD := hid hlead
          clear hlead
          by_cases c1 : 9 < k
          · go_wp2
            go_ret3
            rw [HT.out]
            exact ⟨rfl, rfl⟩
          · by_cases c2 : k = 9 ∧ 1 < bAt xs k
            · obtain ⟨c3, c4⟩ := c2
              have c3a : k ≤ 9 := by omega
              have c3b : 9 ≤ k := by omega
              have b9 : ((k : Int) == 9) = true := by rw [beq_iff_eq]; omega
              clear c3 hbad
              go_wp2
              go_ret3
              rw [HT.out]
              exact ⟨rfl, rfl⟩
            · have c5 : 0 < k := by omega
              have c6 : bAt xs k = 0 := by omega
              by_cases c3 : k = 9
              · have c3a : k ≤ 9 := by omega
                have c3b : 9 ≤ k := by omega
                have b9 : ((k : Int) == 9) = true := by rw [beq_iff_eq]; omega
                clear c3 hbad
                go_wp2
                go_ret3
                rw [HT.out]
                exact ⟨rfl, rfl⟩
              · go_wp2
                go_ret3
                rw [HT.out]
                exact ⟨rfl, rfl⟩
        · have c1 : k ≤ 9 := by omega
          have c2 : k = 9 → bAt xs k ≤ 1 := by omega
          have c4 : 0 < k → bAt xs k ≠ 0 := by omega
          have hkl : k < xs.length := by rw [HL.out]; exact hlt
          have HT : Hid (takeU xs = (partU xs k 0, k + 1, 0)) := by
            unfold Hid takeU
            rw [hlead, HL.out, if_neg (by omega), if_neg hbad, partU_zero]
          have HP : Hid (∀ j, 1 ≤ j → j ≤ k + 1 → partU xs k j < 144115188075855872) := fun j h1 h2 => partU_lt xs k j hkl c1 c2 h1 h2
          have HS : Hid (∀ j, j ≤ k → partU xs k j = bAt xs j % 128 + 128 * partU xs k (j + 1)) := fun j h1 => partU_step xs k j h1 hkl
          have HE : Hid (partU xs k (k + 1) = 0) := partU_end xs k
          obtain ⟨ad2, e2, hcell⟩ := h.2.2 (by omega)
          have HC2 := hid hcell
          injection e2 with e2
          subst e2
          clear hlead hbad hkl hcell
          obtain ⟨b9v, hb9⟩ : ∃ b, ((k : Int) == 9) = b := ⟨_, rfl⟩
          have c7 : b9v = true → bAt xs k ≤ 1 := by
            intro e
            rw [e, beq_iff_eq] at hb9
            exact c2 (by omega)
          clear c2
          cases b9v
          all_goals
            by_cases c5 : 0 < k
          all_goals
            try have c8 := c7 rfl
            try have c9 := c4 c5
            try have b0 : ((bAt xs k : Int) == 0) = false := by rw [beq_eq_false_iff_ne]; omega
            clear c7 c4
            go_wp2
          all_goals
            go_loop [6, 7] (fun v i => ∃ j : Nat, j ≤ k + 1 ∧ v = .int .u64 (partU xs k j : Nat) ∧ i = .int .i64 ((j : Int) - 1)) (fun _ i => (intOf i + 1).toNat)
            case atStart => exact ⟨k + 1, by omega, by rw [HE.out]; rfl, by go_num⟩
            case round =>
              obtain ⟨j, hj, rfl, rfl⟩ := hrel
              cases j with
              | zero =>
                go_wp2
                go_ret3
                rw [HT.out]
                exact ⟨ret3 rfl (by dsimp only; omega) rfl, rfl⟩
              | succ j =>
                have hcj := HC2.out j (by omega)
                have hp := HP.out (j + 1) (by omega) hj
                have ea := and127 xs j
                have eo := or_shl7' (y := bAt xs j) hp
                have HS2 : Hid (bAt xs j % 128 + 128 * partU xs k (j + 1) = partU xs k j) := (HS.out j (by omega)).symm
                go_wp2
                go_round
                case rel => exact ⟨j, by omega, (by have := HS2.out; go_num), by go_num⟩
                case measure => simp [intOf]
    · obtain rfl : k = n := by omega
      have HT : Hid (takeU xs = (0, 0, 5)) := by
        have hlead : leadU xs = k := leadU_eq xs k (by rw [HL.out]; exact hk) HA.out (.inl HL.out.symm)
        unfold Hid takeU
        rw [hlead, HL.out, if_pos rfl]
      go_wp2
      go_ret3
      rw [HT.out]
      exact ⟨rfl, rfl⟩
end Go.Proofs.Yteediedhofapkaa
