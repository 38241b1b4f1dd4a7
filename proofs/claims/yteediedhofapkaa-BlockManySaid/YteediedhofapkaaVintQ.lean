/- What the functions of layer 2 answer: the document's Put, Len, bytes with their length. -/
import Derived.Test.YteediedhofapkaaVintP
import Derived.Test.YteediedhofapkaaVintD
namespace Go.Proofs.Yteediedhofapkaa
open Go.RowKit
set_option linter.unusedVariables false
set_option linter.unusedSimpArgs false

theorem or128b {m : Nat} : bits .or .u8 ((m : Int) % 128) 128 = ((UInt8.ofNat (m % 128 + 128)).toNat : Int) := by
  have h := @or128 (m % 128)
  rw [show (((m % 128 : Nat)) : Int) % 256 = (m : Int) % 128 from by omega] at h
  rw [h, show m % 128 % 128 = m % 128 from by omega]
theorem uvarF_next {f m : Nat} (hf : m < 128 ^ f) (hm : ¬ m < 128) : ∃ f', f = f' + 1 ∧ 1 ≤ f' ∧ m / 128 < 128 ^ f' ∧ uvarF f m = UInt8.ofNat (m % 128 + 128) :: uvarF f' (m / 128) := by
  cases f with
  | zero => simp at hf; omega
  | succ f =>
    refine ⟨f, rfl, ?_, ?_, uvarF_big hm⟩
    · cases f with
      | zero => simp at hf; omega
      | succ f => omega
    · rw [Nat.pow_succ] at hf
      exact Nat.div_lt_of_lt_mul (by rw [Nat.mul_comm]; exact hf)
theorem and127_u64 {m : Nat} (hm : m < 18446744073709551616) : bits .and .u64 (m : Int) 127 = (m : Int) % 128 := by
  have h := u64_and_nat m 127 hm (by omega)
  rw [show ((127 : Nat) : Int) = 127 from rfl] at h
  rw [h, show (127 : Nat) = 2 ^ 7 - 1 from rfl, Nat.and_two_pow_sub_one_eq_mod]
  rfl
set_option maxHeartbeats 1000000 in
set_option maxRecDepth 100000 in
theorem refput_any (v0 : Value) (base : Nat) (xs : List UInt8) (g : Nat) (w : World) (h : OB w base v0 xs) (hb : base ≤ w.heap.size) (hg : g < 18446744073709551616) (hsz : xs.length + 10 ≤ 140737488355328) :
    Calls Try.prog 25 #[v0, .int .u64 (g : Int)] w fun e w' => ∃ v, e = .returned v ∧ OB w' base v (xs ++ uvar g) ∧ w.grownBy w' v0.ownBlock ∧ AtRow w.heap.size v0 v := by
  go_enter Try.func25, Try.ntmps25
  go_wp2
  go_loopw [0, 1] (fun v m wr => ∃ (f x : Nat) (out : List UInt8), m = .int .u64 x ∧ OB wr base v out ∧ w.grownBy wr v0.ownBlock ∧ AtRow w.heap.size v0 v ∧ out ++ uvarF f x = xs ++ uvarF 10 g ∧ x < 128 ^ f ∧ 1 ≤ f ∧ x < 18446744073709551616 ∧ out.length + f ≤ xs.length + 10) (fun _ m _ => (intOf m).toNat)
  case atStart => exact ⟨10, g, xs, rfl, h, grown_refl _ _, .inl rfl, rfl, Nat.lt_of_lt_of_le hg pow128_10, by omega, hg, Nat.le_refl _⟩
  case round =>
    obtain ⟨f, x, out, rfl, hown, hgr, hat, he, hx, hf, hx64, hlen⟩ := hrel
    have HX := hid hx
    have HE := hid he
    clear hx he
    have hbw : base ≤ wr.heap.size := Nat.le_trans hb hgr.size
    by_cases hm : x < 128
    · have HL := hid (uvarF_last HE.out hf hm)
      go_wp2_with (at_builtin; refine wpB_append1 wr wr base rfl (.tmp 16) (.tmp 19) rfl u0 out rfl hown (UInt8.ofNat x) _ (by rw [UInt8.toNat_ofNat']; omega) 1 rfl (by omega) (Below.refl _ _) hbw ?_; intro v1 w1 hown1 _ hg1 hat1)
      go_ret
      exact ⟨v1, rfl, by rw [HL.out] at hown1; exact hown1, grown_step hgr hat hg1, hat.trans hat1 hgr.size⟩
    · have ea := and127_u64 hx64
      go_wp2_with (at_builtin; refine wpB_append1 wr wr base rfl (.tmp 7) (.tmp 12) rfl u0 out rfl hown (UInt8.ofNat (x % 128 + 128)) _ (by exact or128b) 1 rfl (by omega) (Below.refl _ _) hbw ?_; intro v1 w1 hown1 _ hg1 hat1)
      obtain ⟨f', rfl, hf1', hmf', he'⟩ := uvarF_round HE.out HX.out hm
      go_roundw
      case rel => exact ⟨f', x / 128, _, rfl, hown1, grown_step hgr hat hg1, hat.trans hat1 hgr.size, he', hmf', hf1', by omega, by simp; omega⟩
      case measure => simp [intOf]; omega
theorem putbytes_any (A : Option Addr) (n c : Nat) (xs : List UInt8) (A' : Option Addr) (m c' : Nat) (ys : List UInt8) (w : World) (h : RB w A n xs) (h' : RB w A' m ys) (hsz : n + m + 10 ≤ 140737488355328) :
    Calls Try.prog 19 #[.slice A n c, .slice A' m c'] w fun e w' => ∃ v, e = .returned v ∧ OB w' w.heap.size v (xs ++ uvar ys.length ++ ys) ∧ Below w.heap.size w w' := by
  have hl := h'.1
  have HL := hid hl
  have hl2 := h.1
  have HL2 := hid hl2
  have hu := uvar_len m
  clear hl hl2
  go_enter Try.func19, Try.ntmps19
  go_wp2_with (first
    | (go_at_call 18; refine (put_any _ _ _ xs m _ h (by omega) (by omega)).mono ?_; rintro e w1 ⟨v1, rfl, hown1, hB1⟩)
    | (at_builtin; refine wpB_append w w1 w.heap.size rfl (.tmp 9) (.tmp 10) rfl v1 _ rfl hown1 A' m c' ys rfl (h'.below hB1) (by rw [List.length_append, HL.out, HL2.out]; omega) hB1 hB1.size ?_; intro v2 w2 hown2 hB2 _ _))
  go_ret
  exact ⟨v2, rfl, by rw [HL.out]; exact hown2, hB2⟩
theorem refputbytes_any (v0 : Value) (base : Nat) (xs : List UInt8) (A' : Option Addr) (m c' : Nat) (ys : List UInt8) (w : World) (h : OB w base v0 xs) (hb : base ≤ w.heap.size) (h' : RB w A' m ys) (hne : 0 < m → ∀ ad, A' = some ad → v0.ownBlock ≠ some ad.block) (hsz : xs.length + m + 10 ≤ 140737488355328) :
    Calls Try.prog 24 #[v0, .slice A' m c'] w fun e w' => ∃ v, e = .returned v ∧ OB w' base v (xs ++ uvar ys.length ++ ys) ∧ w.grownBy w' v0.ownBlock ∧ AtRow w.heap.size v0 v := by
  have hl := h'.1
  have HL := hid hl
  have hu := uvar_len m
  have HN := hid hne
  clear hl hne
  go_enter Try.func24, Try.ntmps24
  go_wp2_with (first
    | (go_at_call 25; refine (refput_any v0 base xs m _ h hb (by omega) (by omega)).mono ?_; rintro e w1 ⟨v1, rfl, hown1, hg1, hat1⟩)
    | (at_builtin; refine wpB_append w1 w1 base rfl (.tmp 9) (.tmp 10) rfl v1 _ rfl hown1 A' m c' ys rfl (h'.keep fun ad e j hj hc => hg1.cell hc (by rw [block_of_add]; exact Ne.symm (HN.out (by omega) ad e))) (by rw [List.length_append, HL.out]; omega) (Below.refl _ _) (Nat.le_trans hb hg1.size) ?_; intro v2 w2 hown2 hB2 hg2 hat2))
  go_ret
  exact ⟨v2, rfl, by rw [HL.out]; exact hown2, grown_step hg1 hat1 hg2, hat1.trans hat2 hg1.size⟩
end Go.Proofs.Yteediedhofapkaa
