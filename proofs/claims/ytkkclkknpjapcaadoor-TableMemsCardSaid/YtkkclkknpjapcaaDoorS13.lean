/- Shared texts, part S13: VintC, VintP, VintD, VintQ, VintT, VintF, VintG. -/
import Derived.Test.YtkkclkknpjapcaaDoorProg
import Derived.Handy
import Derived.Test.YtkkclkknpjapcaaDoorS02
import Derived.Test.YtkkclkknpjapcaaDoorS12
/-! ### VintC -/
namespace Go.Proofs.YtkkclkknpjapcaaDoor
open Go.RowKit
set_option linter.unusedVariables false
set_option linter.unusedSimpArgs false

theorem ret3 {k1 k2 k3 : IntKind} {a b c a' b' c' : Int} (h1 : a = a') (h2 : b = b') (h3 : c = c') : Ending.returned (.tuple #[.int k1 a, .int k2 b, .int k3 c]) = .returned (.tuple #[.int k1 a', .int k2 b', .int k3 c']) := by rw [h1, h2, h3]
theorem and127 (xs : List UInt8) (j : Nat) : bits .and .u8 (bAt xs j : Int) 127 = ((bAt xs j % 128 : Nat) : Int) := by
  have h := u8_and_nat (bAt xs j) 127 (bAt_lt _ _) (by omega)
  rw [show ((127 : Nat) : Int) = 127 from rfl] at h
  rw [h, show (127 : Nat) = 2 ^ 7 - 1 from rfl, Nat.and_two_pow_sub_one_eq_mod]
theorem or_shl7 {v x : Nat} (hv : v < 144115188075855872) (hx : x < 128) : bits .or .u64 ((v : Int) * 128) (x : Int) = ((x + 128 * v : Nat) : Int) := by
  have h := u64_or_nat (v * 128) x (by omega) (by omega)
  have e : v * 128 ||| x = v * 128 + x := by
    have := Nat.two_pow_add_eq_or_of_lt (i := 7) (b := x) hx v
    rw [Nat.mul_comm]
    exact this.symm
  rw [e] at h
  rw [show (v : Int) * 128 = ((v * 128 : Nat) : Int) from by omega, h]
  omega
theorem or_shl7' {v y : Nat} (hv : v < 144115188075855872) : bits .or .u64 ((v : Int) * 128) ((y : Int) % 128) = ((y % 128 + 128 * v : Nat) : Int) := by
  have := or_shl7 hv (Nat.mod_lt y (show 128 > 0 by omega))
  rw [← this]
  rfl
set_option maxHeartbeats 4000000 in
set_option maxRecDepth 100000 in
theorem take_any (A : Option Addr) (n c : Nat) (xs : List UInt8) (w : World) (h : RB w A n xs) :
    Calls Tryd.prog 55 #[.slice A n c] w fun e w' => e = .returned (.tuple #[.int .u64 ((takeU xs).1 : Nat), .int .i64 ((takeU xs).2.1 : Nat), .int .i64 ((takeU xs).2.2 : Nat)]) ∧ w = w' := by
  have hm := h.max
  have hl := h.1
  have HL := hid hl
  clear hl
  go_enter Tryd.func55, Tryd.ntmps55
  go_wp2
  go_loop [5] (fun i => ∃ k : Nat, k ≤ n ∧ i = .int .i64 k ∧ ∀ j, j < k → 128 ≤ bAt xs j) (fun i => n - (intOf i).toNat)
  case atStart => exact ⟨0, Nat.zero_le _, rfl, fun j hj => absurd hj (by omega)⟩
  case round =>
    obtain ⟨k, hk, rfl, hall⟩ := hrel
    have HA := hid hall
    clear hall
    have hb := bAt_lt xs k
    by_cases hlt : k < n
    · obtain ⟨ad, rfl, hc⟩ := h.at_ hlt
      by_cases hbig : 128 ≤ bAt xs k
      · go_wp2
        go_round
        case rel => exact ⟨k + 1, by omega, by go_num, fun j hj => by
            rcases Nat.lt_or_ge j k with h1 | h1
            · exact HA.out j h1
            · obtain rfl : j = k := by omega
              exact hbig⟩
        case measure => simp [intOf]; omega
      · have hlead : leadU xs = k := leadU_eq xs k (by rw [HL.out]; exact hk) HA.out (.inr (by omega))
        have hne : (k : Int) ≠ (n : Int) := by omega
        by_cases hbad : 9 < k ∨ (k = 9 ∧ 1 < bAt xs k) ∨ (0 < k ∧ bAt xs k = 0)
        · have HT : Hid (takeU xs = (0, 0, 3)) := by
            unfold Hid takeU
            rw [hlead, HL.out, if_neg (by omega), if_pos hbad]
          have HLD := hid hlead
          clear hlead
          by_cases c1 : 9 < k
          · go_wp2
            go_ret3
            rw [HT.out]
            exact ⟨rfl, rfl⟩
          · by_cases c2 : k = 9 ∧ 1 < bAt xs k
            · obtain ⟨c3, c4⟩ := c2
              have c3a : k ≤ 9 := by omega
              have c3b : 9 ≤ k := by omega
              have b9 : ((k : Int) == 9) = true := by rw [beq_iff_eq]; omega
              clear c3 hbad
              go_wp2
              go_ret3
              rw [HT.out]
              exact ⟨rfl, rfl⟩
            · have c5 : 0 < k := by omega
              have c6 : bAt xs k = 0 := by omega
              by_cases c3 : k = 9
              · have c3a : k ≤ 9 := by omega
                have c3b : 9 ≤ k := by omega
                have b9 : ((k : Int) == 9) = true := by rw [beq_iff_eq]; omega
                clear c3 hbad
                go_wp2
                go_ret3
                rw [HT.out]
                exact ⟨rfl, rfl⟩
              · go_wp2
                go_ret3
                rw [HT.out]
                exact ⟨rfl, rfl⟩
        · have c1 : k ≤ 9 := by omega
          have c2 : k = 9 → bAt xs k ≤ 1 := by omega
          have c4 : 0 < k → bAt xs k ≠ 0 := by omega
          have hkl : k < xs.length := by rw [HL.out]; exact hlt
          have HT : Hid (takeU xs = (partU xs k 0, k + 1, 0)) := by
            unfold Hid takeU
            rw [hlead, HL.out, if_neg (by omega), if_neg hbad, partU_zero]
          have HP : Hid (∀ j, 1 ≤ j → j ≤ k + 1 → partU xs k j < 144115188075855872) := fun j h1 h2 => partU_lt xs k j hkl c1 c2 h1 h2
          have HS : Hid (∀ j, j ≤ k → partU xs k j = bAt xs j % 128 + 128 * partU xs k (j + 1)) := fun j h1 => partU_step xs k j h1 hkl
          have HE : Hid (partU xs k (k + 1) = 0) := partU_end xs k
          obtain ⟨ad2, e2, hcell⟩ := h.2.2 (by omega)
          have HC2 := hid hcell
          injection e2 with e2
          subst e2
          clear hlead hbad hkl hcell
          obtain ⟨b9v, hb9⟩ : ∃ b, ((k : Int) == 9) = b := ⟨_, rfl⟩
          have c7 : b9v = true → bAt xs k ≤ 1 := by
            intro e
            rw [e, beq_iff_eq] at hb9
            exact c2 (by omega)
          clear c2
          cases b9v
          all_goals
            by_cases c5 : 0 < k
          all_goals
            try have c8 := c7 rfl
            try have c9 := c4 c5
            try have b0 : ((bAt xs k : Int) == 0) = false := by rw [beq_eq_false_iff_ne]; omega
            clear c7 c4
            go_wp2
          all_goals
            go_loop [6, 7] (fun v i => ∃ j : Nat, j ≤ k + 1 ∧ v = .int .u64 (partU xs k j : Nat) ∧ i = .int .i64 ((j : Int) - 1)) (fun _ i => (intOf i + 1).toNat)
            case atStart => exact ⟨k + 1, by omega, by rw [HE.out]; rfl, by go_num⟩
            case round =>
              obtain ⟨j, hj, rfl, rfl⟩ := hrel
              cases j with
              | zero =>
                go_wp2
                go_ret3
                rw [HT.out]
                exact ⟨ret3 rfl (by dsimp only; omega) rfl, rfl⟩
              | succ j =>
                have hcj := HC2.out j (by omega)
                have hp := HP.out (j + 1) (by omega) hj
                have ea := and127 xs j
                have eo := or_shl7' (y := bAt xs j) hp
                have HS2 : Hid (bAt xs j % 128 + 128 * partU xs k (j + 1) = partU xs k j) := (HS.out j (by omega)).symm
                go_wp2
                go_round
                case rel => exact ⟨j, by omega, (by have := HS2.out; go_num), by go_num⟩
                case measure => simp [intOf]
    · obtain rfl : k = n := by omega
      have HT : Hid (takeU xs = (0, 0, 5)) := by
        have hlead : leadU xs = k := leadU_eq xs k (by rw [HL.out]; exact hk) HA.out (.inl HL.out.symm)
        unfold Hid takeU
        rw [hlead, HL.out, if_pos rfl]
      go_wp2
      go_ret3
      rw [HT.out]
      exact ⟨rfl, rfl⟩
end Go.Proofs.YtkkclkknpjapcaaDoor
/-! ### VintP -/
namespace Go.Proofs.YtkkclkknpjapcaaDoor
open Go.RowKit
set_option linter.unusedVariables false
set_option linter.unusedSimpArgs false

theorem or128_all : ∀ x, x < 256 → x ||| 128 = x % 128 + 128 := by decide +kernel
theorem or128 {m : Nat} : bits .or .u8 ((m : Int) % 256) 128 = ((UInt8.ofNat (m % 128 + 128)).toNat : Int) := by
  have h := u8_or_nat (m % 256) 128 (by omega) (by omega)
  rw [show ((128 : Nat) : Int) = 128 from rfl, show ((m % 256 : Nat) : Int) = (m : Int) % 256 from by omega] at h
  rw [h, or128_all _ (Nat.mod_lt _ (by omega)), UInt8.toNat_ofNat']
  omega
theorem byte_small {m : Nat} (h : m < 128) : (m : Int) % 256 = ((UInt8.ofNat m).toNat : Int) := by
  rw [UInt8.toNat_ofNat', Nat.mod_eq_of_lt (by omega)]
  omega
theorem pow128_10 : (18446744073709551616 : Nat) ≤ 128 ^ 10 := by decide
/-- What is put, from a number on: one round. -/
theorem uvarF_round {out b : List UInt8} {f m g : Nat} (h : out ++ uvarF f m = b ++ uvarF 10 g) (hf : m < 128 ^ f) (hm : ¬ m < 128) : ∃ f', f = f' + 1 ∧ 1 ≤ f' ∧ m / 128 < 128 ^ f' ∧ (out ++ [UInt8.ofNat (m % 128 + 128)]) ++ uvarF f' (m / 128) = b ++ uvarF 10 g := by
  cases f with
  | zero => simp at hf; omega
  | succ f =>
    refine ⟨f, rfl, ?_, ?_, ?_⟩
    · cases f with
      | zero => simp at hf; omega
      | succ f => omega
    · rw [Nat.pow_succ] at hf
      exact Nat.div_lt_of_lt_mul (by rw [Nat.mul_comm]; exact hf)
    · rw [← h, uvarF_big hm]
      simp
theorem uvarF_last {out b : List UInt8} {f m g : Nat} (h : out ++ uvarF f m = b ++ uvarF 10 g) (hf : 1 ≤ f) (hm : m < 128) : out ++ [UInt8.ofNat m] = b ++ uvarF 10 g := by
  obtain ⟨f', rfl⟩ : ∃ f', f = f' + 1 := ⟨f - 1, by omega⟩
  rw [← h, uvarF_small hm]

set_option maxHeartbeats 1000000 in
set_option maxRecDepth 100000 in
theorem put_any (A : Option Addr) (n c : Nat) (xs : List UInt8) (g : Nat) (w : World) (h : RB w A n xs) (hg : g < 18446744073709551616) (hsz : n + 10 ≤ 140737488355328) :
    Calls Tryd.prog 31 #[.slice A n c, .int .u64 (g : Int)] w fun e w' => ∃ v, e = .returned v ∧ OB w' w.heap.size v (xs ++ uvar g) ∧ Below w.heap.size w w' := by
  have hl := h.1
  have HL := hid hl
  clear hl
  go_enter Tryd.func31, Tryd.ntmps31
  go_wp2
  refine wp_scope_ghost 0 (fun k a' w' => ∃ (m f : Nat) (out : List UInt8) (v u6 u7 u8 u9 u10 u11 u12 u13 u14 u15 u16 u17 u18 u19 u20 u21 u22 : Value), a' = { tmps := #[.slice A n c, .int .u64 m, undef, undef, .slice none 0 0, v, u6, u7, u8, u9, u10, u11, u12, u13, u14, u15, u16, u17, u18, u19, u20, u21, u22], defers := [] } ∧ OB w' w.heap.size v out ∧ Below w.heap.size w w' ∧ out ++ uvarF f m = xs ++ uvarF 10 g ∧ m < 128 ^ f ∧ 1 ≤ f ∧ k = f ∧ m < 18446744073709551616 ∧ out.length + f ≤ n + 10) rfl ?_ ?_
  · rintro k a' w' ⟨m, f, out, v, u6, u7, u8, u9, u10, u11, u12, u13, u14, u15, u16, u17, u18, u19, u20, u21, u22, rfl, hown, hB, he, hmf, hf1, rfl, hm64, hlen⟩
    have HE := hid he
    have HM := hid hmf
    clear he hmf
    by_cases hm : m < 128
    · have HX := hid (uvarF_last HE.out hf1 hm)
      go_wp2_with (at_builtin; refine wpB_append1 w w' w.heap.size rfl (.tmp 18) (.tmp 21) rfl v out rfl hown (UInt8.ofNat m) _ (by rw [UInt8.toNat_ofNat']; omega) 1 rfl (by omega) hB hB.size ?_; intro v1 w1 hown1 hB1 _ _)
      simp only [Exit.jump]
      go_ret
      exact ⟨v1, rfl, by rw [HX.out] at hown1; exact hown1, hB1⟩
    · go_wp2_with (at_builtin; refine wpB_append1 w w' w.heap.size rfl (.tmp 10) (.tmp 14) rfl v out rfl hown (UInt8.ofNat (m % 128 + 128)) _ (by exact or128) 1 rfl (by omega) hB hB.size ?_; intro v1 w1 hown1 hB1 _ _)
      obtain ⟨f', rfl, hf1', hmf', he'⟩ := uvarF_round HE.out HM.out hm
      refine wp_goto_k (Jumped.mk f' (by omega) ⟨m / 128, f', _, v1, _, _, _, _, _, _, _, _, _, _, _, _, _, _, _, _, _, rfl, hown1, hB1, he', hmf', hf1', rfl, by omega, by simp; omega⟩)
  · intro hpass
    go_wp2_with (at_builtin; refine wpB_append w w w.heap.size rfl (.const (.slice none 0 0)) (.tmp 6) rfl _ [] rfl (OB.nil _ _) A n c xs rfl h (by rw [HL.out]; simp; omega) (Below.refl _ _) (Nat.le_refl _) ?_; intro v1 w1 hown1 hB1 _ _)
    refine wp_label_k (by assumption) (hpass 10 _ _ ?_)
    exact ⟨g, 10, xs, v1, _, _, _, _, _, _, _, _, _, _, _, _, _, _, _, _, _, rfl, hown1, hB1, rfl, Nat.lt_of_lt_of_le hg pow128_10, by omega, rfl, hg, by rw [HL.out]; exact Nat.le_refl _⟩
end Go.Proofs.YtkkclkknpjapcaaDoor
/-! ### VintD -/
namespace Go.Proofs.YtkkclkknpjapcaaDoor
open Go.RowKit
set_option linter.unusedVariables false
set_option linter.unusedSimpArgs false

end Go.Proofs.YtkkclkknpjapcaaDoor
/-! ### VintQ -/
namespace Go.Proofs.YtkkclkknpjapcaaDoor
open Go.RowKit
set_option linter.unusedVariables false
set_option linter.unusedSimpArgs false

theorem or128b {m : Nat} : bits .or .u8 ((m : Int) % 128) 128 = ((UInt8.ofNat (m % 128 + 128)).toNat : Int) := by
  have h := @or128 (m % 128)
  rw [show (((m % 128 : Nat)) : Int) % 256 = (m : Int) % 128 from by omega] at h
  rw [h, show m % 128 % 128 = m % 128 from by omega]
theorem uvarF_next {f m : Nat} (hf : m < 128 ^ f) (hm : ¬ m < 128) : ∃ f', f = f' + 1 ∧ 1 ≤ f' ∧ m / 128 < 128 ^ f' ∧ uvarF f m = UInt8.ofNat (m % 128 + 128) :: uvarF f' (m / 128) := by
  cases f with
  | zero => simp at hf; omega
  | succ f =>
    refine ⟨f, rfl, ?_, ?_, uvarF_big hm⟩
    · cases f with
      | zero => simp at hf; omega
      | succ f => omega
    · rw [Nat.pow_succ] at hf
      exact Nat.div_lt_of_lt_mul (by rw [Nat.mul_comm]; exact hf)
theorem and127_u64 {m : Nat} (hm : m < 18446744073709551616) : bits .and .u64 (m : Int) 127 = (m : Int) % 128 := by
  have h := u64_and_nat m 127 hm (by omega)
  rw [show ((127 : Nat) : Int) = 127 from rfl] at h
  rw [h, show (127 : Nat) = 2 ^ 7 - 1 from rfl, Nat.and_two_pow_sub_one_eq_mod]
  rfl
theorem putbytes_any (A : Option Addr) (n c : Nat) (xs : List UInt8) (A' : Option Addr) (m c' : Nat) (ys : List UInt8) (w : World) (h : RB w A n xs) (h' : RB w A' m ys) (hsz : n + m + 10 ≤ 140737488355328) :
    Calls Tryd.prog 30 #[.slice A n c, .slice A' m c'] w fun e w' => ∃ v, e = .returned v ∧ OB w' w.heap.size v (xs ++ uvar ys.length ++ ys) ∧ Below w.heap.size w w' := by
  have hl := h'.1
  have HL := hid hl
  have hl2 := h.1
  have HL2 := hid hl2
  have hu := uvar_len m
  clear hl hl2
  go_enter Tryd.func30, Tryd.ntmps30
  go_wp2_with (first
    | (go_at_call 31; refine (put_any _ _ _ xs m _ h (by omega) (by omega)).mono ?_; rintro e w1 ⟨v1, rfl, hown1, hB1⟩)
    | (at_builtin; refine wpB_append w w1 w.heap.size rfl (.tmp 9) (.tmp 10) rfl v1 _ rfl hown1 A' m c' ys rfl (h'.below hB1) (by rw [List.length_append, HL.out, HL2.out]; omega) hB1 hB1.size ?_; intro v2 w2 hown2 hB2 _ _))
  go_ret
  exact ⟨v2, rfl, by rw [HL.out]; exact hown2, hB2⟩
end Go.Proofs.YtkkclkknpjapcaaDoor
/-! ### VintT -/
namespace Go.Proofs.YtkkclkknpjapcaaDoor
open Go.RowKit
set_option linter.unusedVariables false
set_option linter.unusedSimpArgs false

/-- Bytes with their length at the front: they, how many bytes all has, the error. -/
def takeB (l : List UInt8) (most : Int) : List UInt8 × Nat × Nat :=
  if (takeU l).2.2 ≠ 0 then ([], 0, (takeU l).2.2)
  else if most < 0 ∨ most < ((takeU l).1 : Int) then ([], 0, 2)
  else if l.length - (takeU l).2.1 < (takeU l).1 then ([], 0, 5)
  else ((l.drop (takeU l).2.1).take (takeU l).1, (takeU l).2.1 + (takeU l).1, 0)
theorem tup3 {v : Value} {a b a' b' : Int} (h1 : a = a') (h2 : b = b') : Ending.returned (.tuple #[v, .int .i64 a, .int .i64 b]) = .returned (.tuple #[v, .int .i64 a', .int .i64 b']) := by rw [h1, h2]
set_option maxHeartbeats 4000000 in
set_option maxRecDepth 100000 in
theorem takebytes_any (A : Option Addr) (n c : Nat) (xs : List UInt8) (most : Int) (w : World) (h : RB w A n xs) (hc : n ≤ c) (hm : -9223372036854775808 ≤ most ∧ most ≤ 9223372036854775807) (hsz : n ≤ 140737488355328) :
    Calls Tryd.prog 54 #[.slice A n c, .int .i64 most] w fun e w' => ∃ v, e = .returned (.tuple #[v, .int .i64 ((takeB xs most).2.1 : Nat), .int .i64 ((takeB xs most).2.2 : Nat)]) ∧ OB w' w.heap.size v (takeB xs most).1 ∧ Below w.heap.size w w' := by
  have hl := h.1
  have HL := hid hl
  obtain ⟨u, k, er, hT, hu, hk, hk10, her⟩ : ∃ u k er, takeU xs = (u, k, er) ∧ u < 18446744073709551616 ∧ k ≤ n ∧ k ≤ 10 ∧ er ≤ 5 := by
    have := takeU_lt xs
    rw [hl] at this
    exact ⟨_, _, _, rfl, this⟩
  have HT := hid hT
  clear hl hT
  obtain ⟨m1, m2⟩ := hm
  have HC := take_any A n c xs w h
  rw [HT.out] at HC
  have HC' := hid HC
  clear HC
  by_cases he : er = 0
  · have HB : Hid (takeB xs most = if most < 0 ∨ most < (u : Int) then ([], 0, 2) else if n - k < u then ([], 0, 5) else ((xs.drop k).take u, k + u, 0)) := by
      unfold Hid takeB
      rw [HT.out, HL.out]
      simp [he]
    subst he
    by_cases hneg : most < 0
    · have HR : Hid (takeB xs most = ([], 0, 2)) := by rw [HB.out, if_pos (.inl hneg)]; rfl
      go_enter Tryd.func54, Tryd.ntmps54
      go_wp2_with (go_at_call 55; refine (HC'.out).mono ?_; rintro e w' ⟨rfl, rfl⟩)
      go_ret3
      rw [HR.out]
      exact ⟨_, rfl, OB.nil _ _, Below.refl _ _⟩
    · obtain ⟨p, rfl⟩ := Int.eq_ofNat_of_zero_le (show 0 ≤ most by omega)
      by_cases hlong : p < u
      · have HR : Hid (takeB xs p = ([], 0, 2)) := by rw [HB.out, if_pos (.inr (by omega))]; rfl
        go_enter Tryd.func54, Tryd.ntmps54
        go_wp2_with (go_at_call 55; refine (HC'.out).mono ?_; rintro e w' ⟨rfl, rfl⟩)
        go_ret3
        rw [HR.out]
        exact ⟨_, rfl, OB.nil _ _, Below.refl _ _⟩
      · by_cases hshort : n - k < u
        · have HR : Hid (takeB xs p = ([], 0, 5)) := by rw [HB.out, if_neg (by omega), if_pos hshort]; rfl
          go_enter Tryd.func54, Tryd.ntmps54
          go_wp2_with (go_at_call 55; refine (HC'.out).mono ?_; rintro e w' ⟨rfl, rfl⟩)
          go_ret3
          rw [HR.out]
          exact ⟨_, rfl, OB.nil _ _, Below.refl _ _⟩
        · have HR : Hid (takeB xs p = ((xs.drop k).take u, k + u, 0)) := by rw [HB.out, if_neg (by omega), if_neg hshort]; rfl
          obtain ⟨A2, c2, hsl, hrs, hc2⟩ := cutB (A := A) (n := n) (c := c) hc (lo := k) (hi := k + u) (by omega) (by omega) (k : Int) ((k : Int) + (u : Int)) rfl (by omega)
          have hr2 := hrs w xs h
          rw [show k + u - k = u from by omega] at hsl hr2
          have hl2 := hr2.1
          have HL2 := hid hl2
          clear hrs hl2 HB
          go_enter Tryd.func54, Tryd.ntmps54
          go_wp2_with (first
            | (go_at_call 55; refine (HC'.out).mono ?_; rintro e w' ⟨rfl, rfl⟩)
            | (at_builtin; refine wpB_append w w w.heap.size rfl (.const (.slice none 0 0)) (.tmp 45) rfl _ [] rfl (OB.nil _ _) A2 u c2 _ rfl hr2 (by rw [HL2.out]; simp; omega) (Below.refl _ _) (Nat.le_refl _) ?_; intro v1 w1 hown1 hB1 _ _))
          go_ret3
          rw [HR.out]
          exact ⟨v1, tup3 (by dsimp only; omega) rfl, hown1, hB1⟩
  · have HR : Hid (takeB xs most = ([], 0, er)) := by
      unfold Hid takeB
      rw [HT.out, if_pos he]
    have hne : ((er : Int) != 0) = true := by rw [bne_iff_ne]; omega
    go_enter Tryd.func54, Tryd.ntmps54
    go_wp2_with (go_at_call 55; refine (HC'.out).mono ?_; rintro e w' ⟨rfl, rfl⟩)
    go_ret3
    rw [HR.out]
    exact ⟨_, rfl, OB.nil _ _, Below.refl _ _⟩
end Go.Proofs.YtkkclkknpjapcaaDoor
/-! ### VintF -/
namespace Go.Proofs.YtkkclkknpjapcaaDoor
open Go.RowKit
set_option linter.unusedVariables false
set_option linter.unusedSimpArgs false

/-! ## Plain -/
/-- The lowest s bytes, the highest first. -/
def fixedU (n : Nat) : Nat → List UInt8
  | 0 => []
  | s + 1 => UInt8.ofNat (n / 256 ^ s) :: fixedU n s
def fixB (n : Nat) (size : Int) : List UInt8 := if size < 1 ∨ 8 < size then [] else fixedU n size.toNat
def readU (l : List UInt8) : Nat := l.foldl (fun a x => a * 256 + x.toNat) 0
def readB (l : List UInt8) (size : Int) : Nat × Nat :=
  if size < 1 ∨ 8 < size then (0, 1) else if (l.length : Int) < size then (0, 5) else (readU (l.take size.toNat), 0)
theorem fixedU_len (n s : Nat) : (fixedU n s).length = s := by
  induction s with
  | zero => rfl
  | succ s ih => simp [fixedU, ih]
theorem fixB_len (n : Nat) (size : Int) : (fixB n size).length ≤ 8 := by
  unfold fixB
  split
  · simp
  · rw [fixedU_len]; omega
theorem readU_snoc (l : List UInt8) (x : UInt8) : readU (l ++ [x]) = readU l * 256 + x.toNat := by simp [readU, List.foldl_append]
theorem readU_lt : ∀ l : List UInt8, readU l < 256 ^ l.length := by
  intro l
  suffices h : ∀ (m : List UInt8), readU m.reverse < 256 ^ m.length by
    have := h l.reverse
    simpa using this
  intro m
  induction m with
  | nil => simp [readU]
  | cons x m ih =>
    rw [List.reverse_cons, readU_snoc, List.length_cons, Nat.pow_succ]
    have := x.toNat_lt
    omega
theorem readU_lt7 {l : List UInt8} (h : l.length ≤ 7) : readU l < 72057594037927936 := Nat.lt_of_lt_of_le (readU_lt l) (Nat.le_trans (Nat.pow_le_pow_right (by omega) h) (by decide))
theorem readU_lt8 {l : List UInt8} (h : l.length ≤ 8) : readU l < 18446744073709551616 := Nat.lt_of_lt_of_le (readU_lt l) (Nat.le_trans (Nat.pow_le_pow_right (by omega) h) (by decide))
theorem readB_lt (l : List UInt8) (size : Int) : (readB l size).1 < 18446744073709551616 ∧ (readB l size).2 ≤ 5 := by
  unfold readB
  split
  · simp
  · split
    · simp
    · exact ⟨readU_lt8 (by simp; omega), by simp⟩
theorem or_shl8 {v x : Nat} (hv : v < 72057594037927936) (hx : x < 256) : bits .or .u64 ((v : Int) * 256) (x : Int) = ((v * 256 + x : Nat) : Int) := by
  have h := u64_or_nat (v * 256) x (by omega) (by omega)
  have e : v * 256 ||| x = v * 256 + x := by
    have := Nat.two_pow_add_eq_or_of_lt (i := 8) (b := x) hx v
    rw [Nat.mul_comm]
    exact this.symm
  rw [e] at h
  rw [show (v : Int) * 256 = ((v * 256 : Nat) : Int) from by omega, h]

/-! ## Read -/
theorem tup2 {k1 k2 : IntKind} {a b a' b' : Int} (h1 : a = a') (h2 : b = b') : Ending.returned (.tuple #[.int k1 a, .int k2 b]) = .returned (.tuple #[.int k1 a', .int k2 b']) := by rw [h1, h2]
set_option maxHeartbeats 4000000 in
set_option maxRecDepth 100000 in
theorem read_any (A : Option Addr) (n c : Nat) (xs : List UInt8) (size : Int) (w : World) (h : RB w A n xs) (hc : n ≤ c) (hm : -9223372036854775808 ≤ size ∧ size ≤ 9223372036854775807) :
    Calls Tryd.prog 36 #[.slice A n c, .int .i64 size] w fun e w' => e = .returned (.tuple #[.int .u64 ((readB xs size).1 : Nat), .int .i64 ((readB xs size).2 : Nat)]) ∧ w = w' := by
  have hl := h.1
  have hmx := h.max
  have HL := hid hl
  clear hl
  obtain ⟨m1, m2⟩ := hm
  by_cases h1 : size < 1
  · have HR : Hid (readB xs size = (0, 1)) := by unfold Hid readB; rw [if_pos (.inl h1)]
    go_enter Tryd.func36, Tryd.ntmps36
    go_wp2
    go_ret2
    rw [HR.out]
    exact ⟨rfl, rfl⟩
  · by_cases h8 : 8 < size
    · have HR : Hid (readB xs size = (0, 1)) := by unfold Hid readB; rw [if_pos (.inr h8)]
      go_enter Tryd.func36, Tryd.ntmps36
      go_wp2
      go_ret2
      rw [HR.out]
      exact ⟨rfl, rfl⟩
    · obtain ⟨s, rfl⟩ := Int.eq_ofNat_of_zero_le (show 0 ≤ size by omega)
      by_cases hs : n < s
      · have HR : Hid (readB xs s = (0, 5)) := by unfold Hid readB; rw [if_neg (by omega), if_pos (by rw [HL.out]; omega)]
        go_enter Tryd.func36, Tryd.ntmps36
        go_wp2
        go_ret2
        rw [HR.out]
        exact ⟨rfl, rfl⟩
      · obtain ⟨ys, hys⟩ : ∃ ys, ys = xs.take s := ⟨_, rfl⟩
        have HR : Hid (readB xs s = (readU ys, 0)) := by
          unfold Hid readB
          rw [if_neg (by omega), if_neg (by rw [HL.out]; omega), hys]
          rfl
        have hyl : Hid (ys.length = s) := by unfold Hid; rw [hys, List.length_take, HL.out]; omega
        obtain ⟨c2, hsl, hrs, hc2⟩ := cutB_hi (A := A) (n := n) (c := c) hc (hi := s) (by omega) (s : Int) rfl
        have hr := hrs w xs h
        rw [← hys] at hr
        clear hrs hys
        have hs8 : s ≤ 8 := by omega
        go_enter Tryd.func36, Tryd.ntmps36
        go_wp2
        go_loop [6, 25] (fun v i => ∃ k : Nat, k ≤ s ∧ i = .int .i64 k ∧ v = .int .u64 (readU (ys.take k) : Nat)) (fun _ i => s - (intOf i).toNat)
        case atStart => exact ⟨0, Nat.zero_le _, rfl, rfl⟩
        case round =>
          obtain ⟨k, hk, rfl, rfl⟩ := hrel
          by_cases hlt : k < s
          · obtain ⟨ad, rfl, hcell⟩ := hr.at_ hlt
            have hb := bAt_lt ys k
            have hr7 : readU (ys.take k) < 72057594037927936 := readU_lt7 (by rw [List.length_take, hyl.out]; omega)
            have eo := or_shl8 hr7 hb
            have HS : Hid (readU (ys.take k) * 256 + bAt ys k = readU (ys.take (k + 1))) := by
              unfold Hid
              rw [take_succ_elt 0 (by rw [hyl.out]; exact hlt), readU_snoc]
              rfl
            go_wp2
            go_round
            case rel => exact ⟨k + 1, by omega, by go_num, by have := HS.out; go_num⟩
            case measure => simp [intOf]; omega
          · go_wp2
            go_ret2
            rw [HR.out]
            refine ⟨tup2 ?_ rfl, rfl⟩
            dsimp only
            rw [List.take_of_length_le (by rw [hyl.out]; omega)]
end Go.Proofs.YtkkclkknpjapcaaDoor
/-! ### VintG -/
namespace Go.Proofs.YtkkclkknpjapcaaDoor
open Go.RowKit
set_option linter.unusedVariables false
set_option linter.unusedSimpArgs false

theorem shr_byte (g i : Nat) : ((g : Int) / 2 ^ (8 * i)) % 256 = ((UInt8.ofNat (g / 256 ^ i)).toNat : Int) := by
  have e : (2 : Int) ^ (8 * i) = ((256 ^ i : Nat) : Int) := by
    rw [Int.pow_mul, Int.natCast_pow]
    rfl
  rw [UInt8.toNat_ofNat', e, ← Int.natCast_ediv]
  omega
set_option maxHeartbeats 4000000 in
set_option maxRecDepth 100000 in
theorem fixed_any (A : Option Addr) (n c : Nat) (xs : List UInt8) (g : Nat) (size : Int) (w : World) (h : RB w A n xs) (hg : g < 18446744073709551616) (hm : -9223372036854775808 ≤ size ∧ size ≤ 9223372036854775807) (hsz : n + 10 ≤ 140737488355328) :
    Calls Tryd.prog 34 #[.slice A n c, .int .u64 (g : Int), .int .i64 size] w fun e w' => ∃ v, e = .returned v ∧ OB w' w.heap.size v (xs ++ fixB g size) ∧ Below w.heap.size w w' := by
  have hl := h.1
  have HL := hid hl
  clear hl
  obtain ⟨m1, m2⟩ := hm
  by_cases hbad : size < 1 ∨ 8 < size
  · have HR : Hid (xs ++ fixB g size = xs) := by unfold Hid fixB; rw [if_pos hbad]; simp
    have hb2 : ¬ size < 1 → 8 < size := by omega
    by_cases h1 : size < 1
    all_goals
      try have h8 := hb2 h1
      clear hbad hb2
      go_enter Tryd.func34, Tryd.ntmps34
      go_wp2_with (at_builtin; refine wpB_append w w w.heap.size rfl (.const (.slice none 0 0)) (.tmp 9) rfl _ [] rfl (OB.nil _ _) A n c xs rfl h (by rw [HL.out]; simp; omega) (Below.refl _ _) (Nat.le_refl _) ?_; intro v1 w1 hown1 hB1 _ _)
      go_ret
      exact ⟨v1, rfl, by rw [HR.out]; exact hown1, hB1⟩
  · obtain ⟨s, rfl⟩ := Int.eq_ofNat_of_zero_le (show 0 ≤ size by omega)
    have HR : Hid (xs ++ fixB g s = xs ++ fixedU g s) := by unfold Hid fixB; rw [if_neg hbad]; rfl
    go_enter Tryd.func34, Tryd.ntmps34
    go_wp2_with (at_builtin; refine wpB_append w w w.heap.size rfl (.const (.slice none 0 0)) (.tmp 9) rfl _ [] rfl (OB.nil _ _) A n c xs rfl h (by rw [HL.out]; simp; omega) (Below.refl _ _) (Nat.le_refl _) ?_; intro v1 w1 hown1 hB1 _ _)
    go_loopw [7, 8] (fun v i wr => ∃ (j : Nat) (out : List UInt8), j ≤ s ∧ i = .int .i64 ((j : Int) - 1) ∧ OB wr w.heap.size v out ∧ out ++ fixedU g j = xs ++ fixedU g s ∧ Below w.heap.size w wr ∧ out.length + j = n + s) (fun _ i _ => (intOf i + 1).toNat)
    case atStart => exact ⟨s, xs, Nat.le_refl _, by go_num, hown1, rfl, hB1, by rw [HL.out]⟩
    case round =>
      obtain ⟨j, out, hj, rfl, hown, he, hB, hlen⟩ := hrel
      have HE := hid he
      clear he
      cases j with
      | zero =>
        go_wp2
        go_ret
        refine ⟨_, rfl, ?_, hB⟩
        rw [HR.out, ← HE.out]
        simpa [fixedU] using hown
      | succ j =>
        go_wp2_with (at_builtin; refine wpB_append1 w wr w.heap.size rfl (.tmp 24) (.tmp 30) rfl u7 out rfl hown (UInt8.ofNat (g / 256 ^ j)) _ (by exact shr_byte g j) 1 rfl (by omega) hB hB.size ?_; intro v2 w2 hown2 hB2 _ _)
        go_roundw
        case rel => exact ⟨j, _, by omega, by go_num, hown2, by rw [← HE.out]; simp [fixedU], hB2, by simp; omega⟩
        case measure => simp [intOf]
end Go.Proofs.YtkkclkknpjapcaaDoor
