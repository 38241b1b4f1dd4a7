/- What the functions of layer 2 answer: the document's Read; Fixed. -/
import Derived.Test.YtkcdjmipmpeedaaVintF
namespace Go.Proofs.Ytkcdjmipmpeedaa
open Go.RowKit
set_option linter.unusedVariables false
set_option linter.unusedSimpArgs false

set_option maxHeartbeats 4000000 in
set_option maxRecDepth 100000 in
theorem refread_any (A : Option Addr) (n c : Nat) (xs : List UInt8) (size : Int) (w : World) (h : RB w A n xs) (hc : n ≤ c) (hm : -9223372036854775808 ≤ size ∧ size ≤ 9223372036854775807) :
    Calls Try.prog 29 #[.slice A n c, .int .i64 size] w fun e w' => e = .returned (.tuple #[.int .u64 ((readB xs size).1 : Nat), .int .i64 ((readB xs size).2 : Nat)]) ∧ w = w' := by
  have hl := h.1
  have hmx := h.max
  have HL := hid hl
  clear hl
  obtain ⟨m1, m2⟩ := hm
  by_cases h1 : size < 1
  · have HR : Hid (readB xs size = (0, 1)) := by unfold Hid readB; rw [if_pos (.inl h1)]
    go_enter Try.func29, Try.ntmps29
    go_wp2
    go_ret2
    rw [HR.out]
    exact ⟨rfl, rfl⟩
  · by_cases h8 : 8 < size
    · have HR : Hid (readB xs size = (0, 1)) := by unfold Hid readB; rw [if_pos (.inr h8)]
      go_enter Try.func29, Try.ntmps29
      go_wp2
      go_ret2
      rw [HR.out]
      exact ⟨rfl, rfl⟩
    · obtain ⟨s, rfl⟩ := Int.eq_ofNat_of_zero_le (show 0 ≤ size by omega)
      by_cases hs : n < s
      · have HR : Hid (readB xs s = (0, 5)) := by unfold Hid readB; rw [if_neg (by omega), if_pos (by rw [HL.out]; omega)]
        go_enter Try.func29, Try.ntmps29
        go_wp2
        go_ret2
        rw [HR.out]
        exact ⟨rfl, rfl⟩
      · obtain ⟨ys, hys⟩ : ∃ ys, ys = xs.take s := ⟨_, rfl⟩
        have HR : Hid (readB xs s = (readU ys, 0)) := by
          unfold Hid readB
          rw [if_neg (by omega), if_neg (by rw [HL.out]; omega), hys]
          rfl
        have hyl : Hid (ys.length = s) := by unfold Hid; rw [hys, List.length_take, HL.out]; omega
        obtain ⟨c2, hsl, hrs, hc2⟩ := cutB_hi (A := A) (n := n) (c := c) hc (hi := s) (by omega) (s : Int) rfl
        have hr := hrs w xs h
        rw [← hys] at hr
        clear hrs hys
        have hs8 : s ≤ 8 := by omega
        go_enter Try.func29, Try.ntmps29
        go_wp2
        go_loop [6, 23] (fun v i => ∃ k : Nat, k ≤ s ∧ i = .int .i64 k ∧ v = .int .u64 (readU (ys.take k) : Nat)) (fun _ i => s - (intOf i).toNat)
        case atStart => exact ⟨0, Nat.zero_le _, rfl, rfl⟩
        case round =>
          obtain ⟨k, hk, rfl, rfl⟩ := hrel
          by_cases hlt : k < s
          · obtain ⟨ad, rfl, hcell⟩ := hr.at_ hlt
            have hb := bAt_lt ys k
            have hr7 : readU (ys.take k) < 72057594037927936 := readU_lt7 (by rw [List.length_take, hyl.out]; omega)
            have eo := or_shl8 hr7 hb
            have HS : Hid (readU (ys.take k) * 256 + bAt ys k = readU (ys.take (k + 1))) := by
              unfold Hid
              rw [take_succ_elt 0 (by rw [hyl.out]; exact hlt), readU_snoc]
              rfl
            go_wp2
            go_round
            case rel => exact ⟨k + 1, by omega, by go_num, by have := HS.out; go_num⟩
            case measure => simp [intOf]; omega
          · go_wp2
            go_ret2
            rw [HR.out]
            refine ⟨tup2 ?_ rfl, rfl⟩
            dsimp only
            rw [List.take_of_length_le (by rw [hyl.out]; omega)]

theorem shr_byte (g i : Nat) : ((g : Int) / 2 ^ (8 * i)) % 256 = ((UInt8.ofNat (g / 256 ^ i)).toNat : Int) := by
  have e : (2 : Int) ^ (8 * i) = ((256 ^ i : Nat) : Int) := by
    rw [Int.pow_mul, Int.natCast_pow]
    rfl
  rw [UInt8.toNat_ofNat', e, ← Int.natCast_ediv]
  omega
set_option maxHeartbeats 4000000 in
set_option maxRecDepth 100000 in
theorem fixed_any (A : Option Addr) (n c : Nat) (xs : List UInt8) (g : Nat) (size : Int) (w : World) (h : RB w A n xs) (hg : g < 18446744073709551616) (hm : -9223372036854775808 ≤ size ∧ size ≤ 9223372036854775807) (hsz : n + 10 ≤ 140737488355328) :
    Calls Try.prog 19 #[.slice A n c, .int .u64 (g : Int), .int .i64 size] w fun e w' => ∃ v, e = .returned v ∧ OB w' w.heap.size v (xs ++ fixB g size) ∧ Below w.heap.size w w' := by
  have hl := h.1
  have HL := hid hl
  clear hl
  obtain ⟨m1, m2⟩ := hm
  by_cases hbad : size < 1 ∨ 8 < size
  · have HR : Hid (xs ++ fixB g size = xs) := by unfold Hid fixB; rw [if_pos hbad]; simp
    have hb2 : ¬ size < 1 → 8 < size := by omega
    by_cases h1 : size < 1
    all_goals
      try have h8 := hb2 h1
      clear hbad hb2
      go_enter Try.func19, Try.ntmps19
      go_wp2_with (at_builtin; refine wpB_append w w w.heap.size rfl (.const (.slice none 0 0)) (.tmp 9) rfl _ [] rfl (OB.nil _ _) A n c xs rfl h (by rw [HL.out]; simp; omega) (Below.refl _ _) (Nat.le_refl _) ?_; intro v1 w1 hown1 hB1 _ _)
      go_ret
      exact ⟨v1, rfl, by rw [HR.out]; exact hown1, hB1⟩
  · obtain ⟨s, rfl⟩ := Int.eq_ofNat_of_zero_le (show 0 ≤ size by omega)
    have HR : Hid (xs ++ fixB g s = xs ++ fixedU g s) := by unfold Hid fixB; rw [if_neg hbad]; rfl
    go_enter Try.func19, Try.ntmps19
    go_wp2_with (at_builtin; refine wpB_append w w w.heap.size rfl (.const (.slice none 0 0)) (.tmp 9) rfl _ [] rfl (OB.nil _ _) A n c xs rfl h (by rw [HL.out]; simp; omega) (Below.refl _ _) (Nat.le_refl _) ?_; intro v1 w1 hown1 hB1 _ _)
    go_loopw [7, 8] (fun v i wr => ∃ (j : Nat) (out : List UInt8), j ≤ s ∧ i = .int .i64 ((j : Int) - 1) ∧ OB wr w.heap.size v out ∧ out ++ fixedU g j = xs ++ fixedU g s ∧ Below w.heap.size w wr ∧ out.length + j = n + s) (fun _ i _ => (intOf i + 1).toNat)
    case atStart => exact ⟨s, xs, Nat.le_refl _, by go_num, hown1, rfl, hB1, by rw [HL.out]⟩
    case round =>
      obtain ⟨j, out, hj, rfl, hown, he, hB, hlen⟩ := hrel
      have HE := hid he
      clear he
      cases j with
      | zero =>
        go_wp2
        go_ret
        refine ⟨_, rfl, ?_, hB⟩
        rw [HR.out, ← HE.out]
        simpa [fixedU] using hown
      | succ j =>
        go_wp2_with (at_builtin; refine wpB_append1 w wr w.heap.size rfl (.tmp 24) (.tmp 30) rfl u7 out rfl hown (UInt8.ofNat (g / 256 ^ j)) _ (by exact shr_byte g j) 1 rfl (by omega) hB hB.size ?_; intro v2 w2 hown2 hB2 _ _)
        go_roundw
        case rel => exact ⟨j, _, by omega, by go_num, hown2, by rw [← HE.out]; simp [fixedU], hB2, by simp; omega⟩
        case measure => simp [intOf]
set_option maxHeartbeats 4000000 in
set_option maxRecDepth 100000 in
theorem reffixed_any (v0 : Value) (base : Nat) (xs : List UInt8) (g : Nat) (size : Int) (w : World) (h : OB w base v0 xs) (hb : base ≤ w.heap.size) (hg : g < 18446744073709551616) (hm : -9223372036854775808 ≤ size ∧ size ≤ 9223372036854775807) (hsz : xs.length + 10 ≤ 140737488355328) :
    Calls Try.prog 23 #[v0, .int .u64 (g : Int), .int .i64 size] w fun e w' => ∃ v, e = .returned v ∧ OB w' base v (xs ++ fixB g size) ∧ w.grownBy w' v0.ownBlock ∧ AtRow w.heap.size v0 v := by
  obtain ⟨m1, m2⟩ := hm
  by_cases hbad : size < 1 ∨ 8 < size
  · have HR : Hid (xs ++ fixB g size = xs) := by unfold Hid fixB; rw [if_pos hbad]; simp
    have hb2 : ¬ size < 1 → 8 < size := by omega
    by_cases h1 : size < 1
    all_goals
      try have h8 := hb2 h1
      clear hbad hb2
      go_enter Try.func23, Try.ntmps23
      go_wp2
      go_ret
      exact ⟨_, rfl, by rw [HR.out]; exact h, grown_refl _ _, .inl rfl⟩
  · obtain ⟨s, rfl⟩ := Int.eq_ofNat_of_zero_le (show 0 ≤ size by omega)
    have HR : Hid (xs ++ fixB g s = xs ++ fixedU g s) := by unfold Hid fixB; rw [if_neg hbad]; rfl
    go_enter Try.func23, Try.ntmps23
    go_wp2
    go_loopw [0, 7] (fun v i wr => ∃ (j : Nat) (out : List UInt8), j ≤ s ∧ i = .int .i64 ((j : Int) - 1) ∧ OB wr base v out ∧ out ++ fixedU g j = xs ++ fixedU g s ∧ w.grownBy wr v0.ownBlock ∧ AtRow w.heap.size v0 v ∧ out.length + j = xs.length + s) (fun _ i _ => (intOf i + 1).toNat)
    case atStart => exact ⟨s, xs, Nat.le_refl _, by go_num, h, rfl, grown_refl _ _, .inl rfl, rfl⟩
    case round =>
      obtain ⟨j, out, hj, rfl, hown, he, hgr, hat, hlen⟩ := hrel
      have HE := hid he
      have hbw : base ≤ wr.heap.size := Nat.le_trans hb hgr.size
      clear he
      cases j with
      | zero =>
        go_wp2
        go_ret
        refine ⟨_, rfl, ?_, hgr, hat⟩
        rw [HR.out, ← HE.out]
        simpa [fixedU] using hown
      | succ j =>
        go_wp2_with (at_builtin; refine wpB_append1 wr wr base rfl (.tmp 21) (.tmp 28) rfl u0 out rfl hown (UInt8.ofNat (g / 256 ^ j)) _ (by exact shr_byte g j) 1 rfl (by omega) (Below.refl _ _) hbw ?_; intro v2 w2 hown2 _ hg2 hat2)
        go_roundw
        case rel => exact ⟨j, _, by omega, by go_num, hown2, by rw [← HE.out]; simp [fixedU], grown_step hgr hat hg2, hat.trans hat2 hgr.size, by simp; omega⟩
        case measure => simp [intOf]
end Go.Proofs.Ytkcdjmipmpeedaa
