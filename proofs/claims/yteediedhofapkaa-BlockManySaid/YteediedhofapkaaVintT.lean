/- What the functions of layer 2 answer: TakeBytes. -/
import Derived.Test.YteediedhofapkaaVintQ
namespace Go.Proofs.Yteediedhofapkaa
open Go.RowKit
set_option linter.unusedVariables false
set_option linter.unusedSimpArgs false

/-- Bytes with their length at the front: they, how many bytes all has, the error. -/
def takeB (l : List UInt8) (most : Int) : List UInt8 × Nat × Nat :=
  if (takeU l).2.2 ≠ 0 then ([], 0, (takeU l).2.2)
  else if most < 0 ∨ most < ((takeU l).1 : Int) then ([], 0, 2)
  else if l.length - (takeU l).2.1 < (takeU l).1 then ([], 0, 5)
  else ((l.drop (takeU l).2.1).take (takeU l).1, (takeU l).2.1 + (takeU l).1, 0)
theorem tup3 {v : Value} {a b a' b' : Int} (h1 : a = a') (h2 : b = b') : Ending.returned (.tuple #[v, .int .i64 a, .int .i64 b]) = .returned (.tuple #[v, .int .i64 a', .int .i64 b']) := by rw [h1, h2]
set_option maxHeartbeats 4000000 in
set_option maxRecDepth 100000 in
theorem takebytes_any (A : Option Addr) (n c : Nat) (xs : List UInt8) (most : Int) (w : World) (h : RB w A n xs) (hc : n ≤ c) (hm : -9223372036854775808 ≤ most ∧ most ≤ 9223372036854775807) (hsz : n ≤ 140737488355328) :
    Calls Try.prog 37 #[.slice A n c, .int .i64 most] w fun e w' => ∃ v, e = .returned (.tuple #[v, .int .i64 ((takeB xs most).2.1 : Nat), .int .i64 ((takeB xs most).2.2 : Nat)]) ∧ OB w' w.heap.size v (takeB xs most).1 ∧ Below w.heap.size w w' := by
  have hl := h.1
  have HL := hid hl
  obtain ⟨u, k, er, hT, hu, hk, hk10, her⟩ : ∃ u k er, takeU xs = (u, k, er) ∧ u < 18446744073709551616 ∧ k ≤ n ∧ k ≤ 10 ∧ er ≤ 5 := by
    have := takeU_lt xs
    rw [hl] at this
    exact ⟨_, _, _, rfl, this⟩
  have HT := hid hT
  clear hl hT
  obtain ⟨m1, m2⟩ := hm
  have HC := take_any A n c xs w h
  rw [HT.out] at HC
  have HC' := hid HC
  clear HC
  by_cases he : er = 0
  · have HB : Hid (takeB xs most = if most < 0 ∨ most < (u : Int) then ([], 0, 2) else if n - k < u then ([], 0, 5) else ((xs.drop k).take u, k + u, 0)) := by
      unfold Hid takeB
      rw [HT.out, HL.out]
      simp [he]
    subst he
    by_cases hneg : most < 0
    · have HR : Hid (takeB xs most = ([], 0, 2)) := by rw [HB.out, if_pos (.inl hneg)]; rfl
      go_enter Try.func37, Try.ntmps37
      go_wp2_with (go_at_call 39; refine (HC'.out).mono ?_; rintro e w' ⟨rfl, rfl⟩)
      go_ret3
      rw [HR.out]
      exact ⟨_, rfl, OB.nil _ _, Below.refl _ _⟩
    · obtain ⟨p, rfl⟩ := Int.eq_ofNat_of_zero_le (show 0 ≤ most by omega)
      by_cases hlong : p < u
      · have HR : Hid (takeB xs p = ([], 0, 2)) := by rw [HB.out, if_pos (.inr (by omega))]; rfl
        go_enter Try.func37, Try.ntmps37
        go_wp2_with (go_at_call 39; refine (HC'.out).mono ?_; rintro e w' ⟨rfl, rfl⟩)
        go_ret3
        rw [HR.out]
        exact ⟨_, rfl, OB.nil _ _, Below.refl _ _⟩
      · by_cases hshort : n - k < u
        · have HR : Hid (takeB xs p = ([], 0, 5)) := by rw [HB.out, if_neg (by omega), if_pos hshort]; rfl
          go_enter Try.func37, Try.ntmps37
          go_wp2_with (go_at_call 39; refine (HC'.out).mono ?_; rintro e w' ⟨rfl, rfl⟩)
          go_ret3
          rw [HR.out]
          exact ⟨_, rfl, OB.nil _ _, Below.refl _ _⟩
        · have HR : Hid (takeB xs p = ((xs.drop k).take u, k + u, 0)) := by rw [HB.out, if_neg (by omega), if_neg hshort]; rfl
          obtain ⟨A2, c2, hsl, hrs, hc2⟩ := cutB (A := A) (n := n) (c := c) hc (lo := k) (hi := k + u) (by omega) (by omega) (k : Int) ((k : Int) + (u : Int)) rfl (by omega)
          have hr2 := hrs w xs h
          rw [show k + u - k = u from by omega] at hsl hr2
          have hl2 := hr2.1
          have HL2 := hid hl2
          clear hrs hl2 HB
          go_enter Try.func37, Try.ntmps37
          go_wp2_with (first
            | (go_at_call 39; refine (HC'.out).mono ?_; rintro e w' ⟨rfl, rfl⟩)
            | (at_builtin; refine wpB_append w w w.heap.size rfl (.const (.slice none 0 0)) (.tmp 45) rfl _ [] rfl (OB.nil _ _) A2 u c2 _ rfl hr2 (by rw [HL2.out]; simp; omega) (Below.refl _ _) (Nat.le_refl _) ?_; intro v1 w1 hown1 hB1 _ _))
          go_ret3
          rw [HR.out]
          exact ⟨v1, tup3 (by dsimp only; omega) rfl, hown1, hB1⟩
  · have HR : Hid (takeB xs most = ([], 0, er)) := by
      unfold Hid takeB
      rw [HT.out, if_pos he]
    have hne : ((er : Int) != 0) = true := by rw [bne_iff_ne]; omega
    go_enter Try.func37, Try.ntmps37
    go_wp2_with (go_at_call 39; refine (HC'.out).mono ?_; rintro e w' ⟨rfl, rfl⟩)
    go_ret3
    rw [HR.out]
    exact ⟨_, rfl, OB.nil _ _, Below.refl _ _⟩
end Go.Proofs.Yteediedhofapkaa
