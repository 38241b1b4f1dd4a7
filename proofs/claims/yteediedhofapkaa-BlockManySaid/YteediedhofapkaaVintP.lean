/- What the functions of layer 2 answer: Put, Len and their like. -/
import Derived.Test.YteediedhofapkaaVintC
namespace Go.Proofs.Yteediedhofapkaa
open Go.RowKit
set_option linter.unusedVariables false
set_option linter.unusedSimpArgs false

theorem or128_all : ∀ x, x < 256 → x ||| 128 = x % 128 + 128 := by decide +kernel
theorem or128 {m : Nat} : bits .or .u8 ((m : Int) % 256) 128 = ((UInt8.ofNat (m % 128 + 128)).toNat : Int) := by
  have h := u8_or_nat (m % 256) 128 (by omega) (by omega)
  rw [show ((128 : Nat) : Int) = 128 from rfl, show ((m % 256 : Nat) : Int) = (m : Int) % 256 from by omega] at h
  rw [h, or128_all _ (Nat.mod_lt _ (by omega)), UInt8.toNat_ofNat']
  omega
theorem byte_small {m : Nat} (h : m < 128) : (m : Int) % 256 = ((UInt8.ofNat m).toNat : Int) := by
  rw [UInt8.toNat_ofNat', Nat.mod_eq_of_lt (by omega)]
  omega
theorem pow128_10 : (18446744073709551616 : Nat) ≤ 128 ^ 10 := by decide
/-- What is put, from a number on: one round. -/
theorem uvarF_round {out b : List UInt8} {f m g : Nat} (h : out ++ uvarF f m = b ++ uvarF 10 g) (hf : m < 128 ^ f) (hm : ¬ m < 128) : ∃ f', f = f' + 1 ∧ 1 ≤ f' ∧ m / 128 < 128 ^ f' ∧ (out ++ [UInt8.ofNat (m % 128 + 128)]) ++ uvarF f' (m / 128) = b ++ uvarF 10 g := by
  cases f with
  | zero => simp at hf; omega
  | succ f =>
    refine ⟨f, rfl, ?_, ?_, ?_⟩
    · cases f with
      | zero => simp at hf; omega
      | succ f => omega
    · rw [Nat.pow_succ] at hf
      exact Nat.div_lt_of_lt_mul (by rw [Nat.mul_comm]; exact hf)
    · rw [← h, uvarF_big hm]
      simp
theorem uvarF_last {out b : List UInt8} {f m g : Nat} (h : out ++ uvarF f m = b ++ uvarF 10 g) (hf : 1 ≤ f) (hm : m < 128) : out ++ [UInt8.ofNat m] = b ++ uvarF 10 g := by
  obtain ⟨f', rfl⟩ : ∃ f', f = f' + 1 := ⟨f - 1, by omega⟩
  rw [← h, uvarF_small hm]

set_option maxHeartbeats 1000000 in
set_option maxRecDepth 100000 in
theorem put_any (A : Option Addr) (n c : Nat) (xs : List UInt8) (g : Nat) (w : World) (h : RB w A n xs) (hg : g < 18446744073709551616) (hsz : n + 10 ≤ 140737488355328) :
    Calls Try.prog 18 #[.slice A n c, .int .u64 (g : Int)] w fun e w' => ∃ v, e = .returned v ∧ OB w' w.heap.size v (xs ++ uvar g) ∧ Below w.heap.size w w' := by
  have hl := h.1
  have HL := hid hl
  clear hl
  go_enter Try.func18, Try.ntmps18
  go_wp2
  refine wp_scope_ghost 0 (fun k a' w' => ∃ (m f : Nat) (out : List UInt8) (v u6 u7 u8 u9 u10 u11 u12 u13 u14 u15 u16 u17 u18 u19 u20 u21 u22 : Value), a' = { tmps := #[.slice A n c, .int .u64 m, undef, undef, .slice none 0 0, v, u6, u7, u8, u9, u10, u11, u12, u13, u14, u15, u16, u17, u18, u19, u20, u21, u22], defers := [] } ∧ OB w' w.heap.size v out ∧ Below w.heap.size w w' ∧ out ++ uvarF f m = xs ++ uvarF 10 g ∧ m < 128 ^ f ∧ 1 ≤ f ∧ k = f ∧ m < 18446744073709551616 ∧ out.length + f ≤ n + 10) rfl ?_ ?_
  · rintro k a' w' ⟨m, f, out, v, u6, u7, u8, u9, u10, u11, u12, u13, u14, u15, u16, u17, u18, u19, u20, u21, u22, rfl, hown, hB, he, hmf, hf1, rfl, hm64, hlen⟩
    have HE := hid he
    have HM := hid hmf
    clear he hmf
    by_cases hm : m < 128
    · have HX := hid (uvarF_last HE.out hf1 hm)
      go_wp2_with (at_builtin; refine wpB_append1 w w' w.heap.size rfl (.tmp 18) (.tmp 21) rfl v out rfl hown (UInt8.ofNat m) _ (by rw [UInt8.toNat_ofNat']; omega) 1 rfl (by omega) hB hB.size ?_; intro v1 w1 hown1 hB1 _ _)
      simp only [Exit.jump]
      go_ret
      exact ⟨v1, rfl, by rw [HX.out] at hown1; exact hown1, hB1⟩
    · go_wp2_with (at_builtin; refine wpB_append1 w w' w.heap.size rfl (.tmp 10) (.tmp 14) rfl v out rfl hown (UInt8.ofNat (m % 128 + 128)) _ (by exact or128) 1 rfl (by omega) hB hB.size ?_; intro v1 w1 hown1 hB1 _ _)
      obtain ⟨f', rfl, hf1', hmf', he'⟩ := uvarF_round HE.out HM.out hm
      refine wp_goto_k (Jumped.mk f' (by omega) ⟨m / 128, f', _, v1, _, _, _, _, _, _, _, _, _, _, _, _, _, _, _, _, _, rfl, hown1, hB1, he', hmf', hf1', rfl, by omega, by simp; omega⟩)
  · intro hpass
    go_wp2_with (at_builtin; refine wpB_append w w w.heap.size rfl (.const (.slice none 0 0)) (.tmp 6) rfl _ [] rfl (OB.nil _ _) A n c xs rfl h (by rw [HL.out]; simp; omega) (Below.refl _ _) (Nat.le_refl _) ?_; intro v1 w1 hown1 hB1 _ _)
    refine wp_label_k (by assumption) (hpass 10 _ _ ?_)
    exact ⟨g, 10, xs, v1, _, _, _, _, _, _, _, _, _, _, _, _, _, _, _, _, _, rfl, hown1, hB1, rfl, Nat.lt_of_lt_of_le hg pow128_10, by omega, rfl, hg, by rw [HL.out]; exact Nat.le_refl _⟩
end Go.Proofs.Yteediedhofapkaa
