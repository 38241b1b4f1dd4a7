/- Layer 6: the document's TakeFrame: the walk. -/
import Derived.Test.YtkcdjmipmpeedaaFrT
namespace Go.Proofs.Ytkcdjmipmpeedaa
open Go.RowKit
set_option linter.unusedVariables false
set_option linter.unusedSimpArgs false

set_option maxHeartbeats 8000000 in
set_option maxRecDepth 100000 in
theorem refftake_any (A : Option Addr) (n c : Nat) (xs : List UInt8) (w : World) (h : RB w A n xs) (hc : n ≤ c) (hsz : n ≤ 140737488355328) :
    Calls Try.prog 12 #[.slice A n c] w fun e w' => ∃ v, e = .returned (.tuple #[v, .int .i64 ((ftakeB xs).2.1 : Nat), .int .i64 ((ftakeB xs).2.2 : Nat)]) ∧ OB w' w.heap.size v (ftakeB xs).1 ∧ Below w.heap.size w w' := by
  have hl := h.1
  by_cases h4 : n < 4
  · have e1 : ftakeB xs = ([], 0, 5) := by unfold ftakeB; rw [hl, if_pos h4]
    have hR := refread_any A n c xs 4 w h hc (by omega)
    rw [readB_short (by omega)] at hR
    have HR := hid hR
    rw [e1]
    clear hR hl e1
    go_enter Try.func12, Try.ntmps12
    go_wp2_with (go_at_call 29; refine (HR.out).mono ?_; rintro e w1 ⟨rfl, rfl⟩)
    go_ret3
    exact ⟨_, rfl, OB.nil _ _, Below.refl _ _⟩
  · have hR := refread_any A n c xs 4 w h hc (by omega)
    rw [readB_four (by omega)] at hR
    obtain ⟨W4, hW4⟩ : ∃ x, x = readU (xs.take 4) := ⟨_, rfl⟩
    have hW32 := readU_four xs
    rw [← hW4] at hR hW32
    obtain ⟨A2, c2, hsl, hrs, hc2⟩ := cutB_lo (A := A) (n := n) (c := c) hc (lo := 4) (by omega) (4 : Int) rfl
    have hT := reftake_any A2 (n - 4) c2 _ w (hrs _ _ h)
    have htl := takeU_lt (xs.drop 4)
    have htu := takeU_used (xs.drop 4)
    rw [List.length_drop, hl] at htl
    obtain ⟨u, k, te, hTU⟩ : ∃ a b d, takeU (xs.drop 4) = (a, b, d) := ⟨_, _, _, rfl⟩
    rw [hTU] at hT htl htu
    obtain ⟨R, N, E, hF⟩ : ∃ a b d, ftakeB xs = (a, b, d) := ⟨_, _, _, rfl⟩
    rw [hF]
    have hF2 : ftakeB xs = (if te ≠ 0 then ([], 0, te) else if 1048576 < u then ([], 0, 2) else if n - 4 - k < u then ([], 0, 5) else if sumR ((xs.drop 4).take (k + u)) ≠ W4 then ([], 0, 4) else ((xs.drop (4 + k)).take u, 4 + k + u, 0)) := by
      unfold ftakeB
      rw [hl, if_neg h4, hTU, ← hW4]
    rw [hF] at hF2
    simp only [] at htl htu
    obtain ⟨t1, t2, t3, t4⟩ := htl
    have HR := hid hR
    have HT := hid hT
    have HL := hid hl
    have HU := hid htu
    clear hR hT hl hTU hW4 htu hF
    by_cases he : te = 0
    · have hk1 := HU.out he
      subst he
      rw [if_neg (by omega)] at hF2
      by_cases hbig : 1048576 < u
      · rw [if_pos hbig] at hF2
        obtain ⟨rfl, hF3⟩ := Prod.mk.inj hF2
        obtain ⟨rfl, rfl⟩ := Prod.mk.inj hF3
        clear hF2 hF3
        go_enter Try.func12, Try.ntmps12
        go_wp2_with (first
          | (go_at_call 29; refine (HR.out).mono ?_; rintro e w1 ⟨rfl, rfl⟩)
          | (go_at_call 28; refine (HT.out).mono ?_; rintro e w1 ⟨rfl, rfl⟩))
        go_ret3
        exact ⟨_, rfl, OB.nil _ _, Below.refl _ _⟩
      · rw [if_neg hbig] at hF2
        have hw1 : IntKind.u64.wrap ((n : Int) - 4 - (k : Int)) = (n : Int) - 4 - (k : Int) := by rw [IntKind.wrap_u64]; omega
        by_cases hlong : n - 4 - k < u
        · rw [if_pos hlong] at hF2
          obtain ⟨rfl, hF3⟩ := Prod.mk.inj hF2
          obtain ⟨rfl, rfl⟩ := Prod.mk.inj hF3
          clear hF2 hF3
          have hlong2 : (n : Int) < 4 + (k : Int) + (u : Int) := by omega
          have hu63 : IntKind.i64.wrap (u : Int) = u := IntWalk.i64_in _ (by omega)
          go_enter Try.func12, Try.ntmps12
          go_wp2_with (first
            | (go_at_call 29; refine (HR.out).mono ?_; rintro e w1 ⟨rfl, rfl⟩)
            | (go_at_call 28; refine (HT.out).mono ?_; rintro e w1 ⟨rfl, rfl⟩))
          go_ret3
          exact ⟨_, rfl, OB.nil _ _, Below.refl _ _⟩
        · rw [if_neg hlong] at hF2
          have hlong2 : ¬ ((n : Int) < 4 + (k : Int) + (u : Int)) := by omega
          have hW32w : IntKind.u32.wrap (W4 : Int) = W4 := by rw [IntKind.wrap_u32]; omega
          have hu63 : IntKind.i64.wrap (u : Int) = u := IntWalk.i64_in _ (by omega)
          obtain ⟨A3, c3, hsl3, hrs3, hc3⟩ := cutB (A := A) (n := n) (c := c) hc (lo := 4) (hi := 4 + k + u) (by omega) (by omega) (4 : Int) (4 + (k : Int) + (u : Int)) rfl (by omega)
          rw [show 4 + k + u - 4 = k + u from by omega] at hsl3 hrs3 hc3
          have hr3 := hrs3 _ _ h
          obtain ⟨A4, c4, hsl4, hrs4, hc4⟩ := cutB (A := A) (n := n) (c := c) hc (lo := 4 + k) (hi := 4 + k + u) (by omega) (by omega) (4 + (k : Int)) (4 + (k : Int) + (u : Int)) (by omega) (by omega)
          rw [show 4 + k + u - (4 + k) = u from by omega] at hsl4 hrs4 hc4
          have hr4 := hrs4 _ _ h
          obtain ⟨S4, hS4⟩ : ∃ x, x = sumR ((xs.drop 4).take (k + u)) := ⟨_, rfl⟩
          have hS32 := sumR_lt ((xs.drop 4).take (k + u))
          rw [← hS4] at hS32 hF2
          have HS4 := hid hS4
          clear hS4 hrs3 hrs4 hrs
          by_cases hsum : S4 = W4
          · rw [if_neg (by omega)] at hF2
            obtain ⟨rfl, hF3⟩ := Prod.mk.inj hF2
            obtain ⟨rfl, rfl⟩ := Prod.mk.inj hF3
            clear hF2 hF3
            have hsum2 : ((W4 : Int) == (S4 : Int)) = true := by rw [hsum]; simp
            clear hsum
            go_enter Try.func12, Try.ntmps12
            go_wp2_with (first
              | (go_at_call 29; refine (HR.out).mono ?_; rintro e w1 ⟨rfl, rfl⟩)
              | (go_at_call 28; refine (HT.out).mono ?_; rintro e w1 ⟨rfl, rfl⟩)
              | (go_at_call 25; (with_reducible refine (refsum_any A3 (k + u) c3 _ _ hr3).mono ?_); rintro e w2 ⟨rfl, rfl⟩)
              | (go_at_call 24; (with_reducible refine (refmask_any _ (crcMore_lt _ _) _).mono ?_); rintro e w2 ⟨rfl, rfl⟩; rw [show crcMask (crcMore 0 ((xs.drop 4).take (k + u))) = S4 from HS4.out.symm])
              | (at_builtin; refine wpB_append w w w.heap.size rfl (.const (.slice none 0 0)) (.tmp 52) rfl _ [] rfl (OB.nil _ _) A4 u c4 _ rfl hr4 (by have := hr4.1; simp; omega) (Below.refl _ _) (Nat.le_refl _) ?_; intro v1 w1 hown1 hB1 _ _))
            go_ret3
            have hE : ((4 + k + u : Nat) : Int) = 4 + (k : Int) + (u : Int) := by omega
            have hown1' : OB w1 w.heap.size v1 (((xs.drop (4 + k)).take u)) := hown1
            refine ⟨v1, ?_, hown1', hB1⟩
            rw [hE]
            rfl
          · rw [if_pos hsum] at hF2
            obtain ⟨rfl, hF3⟩ := Prod.mk.inj hF2
            obtain ⟨rfl, rfl⟩ := Prod.mk.inj hF3
            clear hF2 hF3
            have hsum2 : ((W4 : Int) == (S4 : Int)) = false := by rw [beq_eq_false_iff_ne]; omega
            clear hsum
            go_enter Try.func12, Try.ntmps12
            go_wp2_with (first
              | (go_at_call 29; refine (HR.out).mono ?_; rintro e w1 ⟨rfl, rfl⟩)
              | (go_at_call 28; refine (HT.out).mono ?_; rintro e w1 ⟨rfl, rfl⟩)
              | (go_at_call 25; (with_reducible refine (refsum_any A3 (k + u) c3 _ _ hr3).mono ?_); rintro e w2 ⟨rfl, rfl⟩)
              | (go_at_call 24; (with_reducible refine (refmask_any _ (crcMore_lt _ _) _).mono ?_); rintro e w2 ⟨rfl, rfl⟩; rw [show crcMask (crcMore 0 ((xs.drop 4).take (k + u))) = S4 from HS4.out.symm]))
            go_ret3
            exact ⟨_, rfl, OB.nil _ _, Below.refl _ _⟩
    · rw [if_pos he] at hF2
      obtain ⟨rfl, hF3⟩ := Prod.mk.inj hF2
      obtain ⟨rfl, rfl⟩ := Prod.mk.inj hF3
      clear hF2 hF3
      have he2 : ¬ ((E : Int) = 0) := by omega
      go_enter Try.func12, Try.ntmps12
      go_wp2_with (first
        | (go_at_call 29; refine (HR.out).mono ?_; rintro e w1 ⟨rfl, rfl⟩)
        | (go_at_call 28; refine (HT.out).mono ?_; rintro e w1 ⟨rfl, rfl⟩))
      go_ret3
      exact ⟨_, rfl, OB.nil _ _, Below.refl _ _⟩
end Go.Proofs.Ytkcdjmipmpeedaa
