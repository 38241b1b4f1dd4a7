/- What the functions of layer 2 answer: the document's Read; Fixed. -/
import Derived.Test.YteediedhofapkaaVintF
namespace Go.Proofs.Yteediedhofapkaa
open Go.RowKit
set_option linter.unusedVariables false
set_option linter.unusedSimpArgs false

theorem shr_byte (g i : Nat) : ((g : Int) / 2 ^ (8 * i)) % 256 = ((UInt8.ofNat (g / 256 ^ i)).toNat : Int) := by
  have e : (2 : Int) ^ (8 * i) = ((256 ^ i : Nat) : Int) := by
    rw [Int.pow_mul, Int.natCast_pow]
    rfl
  rw [UInt8.toNat_ofNat', e, ← Int.natCast_ediv]
  omega
set_option maxHeartbeats 4000000 in
set_option maxRecDepth 100000 in
theorem fixed_any (A : Option Addr) (n c : Nat) (xs : List UInt8) (g : Nat) (size : Int) (w : World) (h : RB w A n xs) (hg : g < 18446744073709551616) (hm : -9223372036854775808 ≤ size ∧ size ≤ 9223372036854775807) (hsz : n + 10 ≤ 140737488355328) :
    Calls Try.prog 20 #[.slice A n c, .int .u64 (g : Int), .int .i64 size] w fun e w' => ∃ v, e = .returned v ∧ OB w' w.heap.size v (xs ++ fixB g size) ∧ Below w.heap.size w w' := by
  have hl := h.1
  have HL := hid hl
  clear hl
  obtain ⟨m1, m2⟩ := hm
  by_cases hbad : size < 1 ∨ 8 < size
  · have HR : Hid (xs ++ fixB g size = xs) := by unfold Hid fixB; rw [if_pos hbad]; simp
    have hb2 : ¬ size < 1 → 8 < size := by omega
    by_cases h1 : size < 1
    all_goals
      try have h8 := hb2 h1
      clear hbad hb2
      go_enter Try.func20, Try.ntmps20
      go_wp2_with (at_builtin; refine wpB_append w w w.heap.size rfl (.const (.slice none 0 0)) (.tmp 9) rfl _ [] rfl (OB.nil _ _) A n c xs rfl h (by rw [HL.out]; simp; omega) (Below.refl _ _) (Nat.le_refl _) ?_; intro v1 w1 hown1 hB1 _ _)
      go_ret
      exact ⟨v1, rfl, by rw [HR.out]; exact hown1, hB1⟩
  · obtain ⟨s, rfl⟩ := Int.eq_ofNat_of_zero_le (show 0 ≤ size by omega)
    have HR : Hid (xs ++ fixB g s = xs ++ fixedU g s) := by unfold Hid fixB; rw [if_neg hbad]; rfl
    go_enter Try.func20, Try.ntmps20
    go_wp2_with (at_builtin; refine wpB_append w w w.heap.size rfl (.const (.slice none 0 0)) (.tmp 9) rfl _ [] rfl (OB.nil _ _) A n c xs rfl h (by rw [HL.out]; simp; omega) (Below.refl _ _) (Nat.le_refl _) ?_; intro v1 w1 hown1 hB1 _ _)
    go_loopw [7, 8] (fun v i wr => ∃ (j : Nat) (out : List UInt8), j ≤ s ∧ i = .int .i64 ((j : Int) - 1) ∧ OB wr w.heap.size v out ∧ out ++ fixedU g j = xs ++ fixedU g s ∧ Below w.heap.size w wr ∧ out.length + j = n + s) (fun _ i _ => (intOf i + 1).toNat)
    case atStart => exact ⟨s, xs, Nat.le_refl _, by go_num, hown1, rfl, hB1, by rw [HL.out]⟩
    case round =>
      obtain ⟨j, out, hj, rfl, hown, he, hB, hlen⟩ := hrel
      have HE := hid he
      clear he
      cases j with
      | zero =>
        go_wp2
        go_ret
        refine ⟨_, rfl, ?_, hB⟩
        rw [HR.out, ← HE.out]
        simpa [fixedU] using hown
      | succ j =>
        go_wp2_with (at_builtin; refine wpB_append1 w wr w.heap.size rfl (.tmp 24) (.tmp 30) rfl u7 out rfl hown (UInt8.ofNat (g / 256 ^ j)) _ (by exact shr_byte g j) 1 rfl (by omega) hB hB.size ?_; intro v2 w2 hown2 hB2 _ _)
        go_roundw
        case rel => exact ⟨j, _, by omega, by go_num, hown2, by rw [← HE.out]; simp [fixedU], hB2, by simp; omega⟩
        case measure => simp [intOf]
set_option maxHeartbeats 4000000 in
set_option maxRecDepth 100000 in
theorem reffixed_any (v0 : Value) (base : Nat) (xs : List UInt8) (g : Nat) (size : Int) (w : World) (h : OB w base v0 xs) (hb : base ≤ w.heap.size) (hg : g < 18446744073709551616) (hm : -9223372036854775808 ≤ size ∧ size ≤ 9223372036854775807) (hsz : xs.length + 10 ≤ 140737488355328) :
    Calls Try.prog 23 #[v0, .int .u64 (g : Int), .int .i64 size] w fun e w' => ∃ v, e = .returned v ∧ OB w' base v (xs ++ fixB g size) ∧ w.grownBy w' v0.ownBlock ∧ AtRow w.heap.size v0 v := by
  obtain ⟨m1, m2⟩ := hm
  by_cases hbad : size < 1 ∨ 8 < size
  · have HR : Hid (xs ++ fixB g size = xs) := by unfold Hid fixB; rw [if_pos hbad]; simp
    have hb2 : ¬ size < 1 → 8 < size := by omega
    by_cases h1 : size < 1
    all_goals
      try have h8 := hb2 h1
      clear hbad hb2
      go_enter Try.func23, Try.ntmps23
      go_wp2
      go_ret
      exact ⟨_, rfl, by rw [HR.out]; exact h, grown_refl _ _, .inl rfl⟩
  · obtain ⟨s, rfl⟩ := Int.eq_ofNat_of_zero_le (show 0 ≤ size by omega)
    have HR : Hid (xs ++ fixB g s = xs ++ fixedU g s) := by unfold Hid fixB; rw [if_neg hbad]; rfl
    go_enter Try.func23, Try.ntmps23
    go_wp2
    go_loopw [0, 7] (fun v i wr => ∃ (j : Nat) (out : List UInt8), j ≤ s ∧ i = .int .i64 ((j : Int) - 1) ∧ OB wr base v out ∧ out ++ fixedU g j = xs ++ fixedU g s ∧ w.grownBy wr v0.ownBlock ∧ AtRow w.heap.size v0 v ∧ out.length + j = xs.length + s) (fun _ i _ => (intOf i + 1).toNat)
    case atStart => exact ⟨s, xs, Nat.le_refl _, by go_num, h, rfl, grown_refl _ _, .inl rfl, rfl⟩
    case round =>
      obtain ⟨j, out, hj, rfl, hown, he, hgr, hat, hlen⟩ := hrel
      have HE := hid he
      have hbw : base ≤ wr.heap.size := Nat.le_trans hb hgr.size
      clear he
      cases j with
      | zero =>
        go_wp2
        go_ret
        refine ⟨_, rfl, ?_, hgr, hat⟩
        rw [HR.out, ← HE.out]
        simpa [fixedU] using hown
      | succ j =>
        go_wp2_with (at_builtin; refine wpB_append1 wr wr base rfl (.tmp 21) (.tmp 28) rfl u0 out rfl hown (UInt8.ofNat (g / 256 ^ j)) _ (by exact shr_byte g j) 1 rfl (by omega) (Below.refl _ _) hbw ?_; intro v2 w2 hown2 _ hg2 hat2)
        go_roundw
        case rel => exact ⟨j, _, by omega, by go_num, hown2, by rw [← HE.out]; simp [fixedU], grown_step hgr hat hg2, hat.trans hat2 hgr.size, by simp; omega⟩
        case measure => simp [intOf]
end Go.Proofs.Yteediedhofapkaa
