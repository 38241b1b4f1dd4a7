/- Layer 16: container/heap: down, Init, Fix. -/
import Derived.Test.YtnjhiiakpndnnaaMgC
namespace Go.Proofs.Ytnjhiiakpndnnaa
open Go.RowKit
set_option linter.unusedVariables false
set_option linter.unusedSimpArgs false

abbrev hIf (bh : Nat) : Value := .iface 63 (.pointer (some ⟨bh, 0, none⟩))
theorem less_at (w W : World) (base bh g n c i j : Nat) (L : List (List Value)) (H : List HeadR) (I J : Int) (hI : I = (i : Int)) (hJ : J = (j : Int)) (h : HJ w W base bh g n c L H) (hi : i < n) (hj : j < n) (hn : n ≤ 1000) :
    Calls Try.prog 53 #[.slice (some ⟨g, 0, none⟩) n c, .int .i64 I, .int .i64 J] W fun e w' => e = .returned (.bool (lessB (eh H i) (eh H j))) ∧ Below W.heap.size W w' := by
  subst hI hJ
  exact less_any w W base bh g n c i j L H h hi hj hn
theorem swap_at (w W : World) (base bh g n c i j : Nat) (L : List (List Value)) (H : List HeadR) (I J : Int) (hI : I = (i : Int)) (hJ : J = (j : Int)) (h : HJ w W base bh g n c L H) (hb : w.heap.size ≤ base) (hi : i < n) (hj : j < n) (hij : i ≠ j) (hn : n ≤ 1000) :
    Calls Try.prog 54 #[.slice (some ⟨g, 0, none⟩) n c, .int .i64 I, .int .i64 J] W fun e w' => e = .returned (.tuple #[]) ∧ HJ w w' base bh g n c (swapL [] L i j) (swapL noHd H i j) ∧ W.grownBy w' (some g) := by
  subst hI hJ
  exact swap_any w W base bh g n c i j L H h hb hi hj hij hn
/-- What down leaves. -/
def DownC (w W w' : World) (base bh g n c lo : Nat) (H : List HeadR) : Prop := ∃ L' H', HJ w w' base bh g n c L' H' ∧ H'.Perm H ∧ HF H' lo ∧ W.grownBy w' (some g)
/-- Where down's loop stands. -/
def DownJ (w W wr : World) (base bh g n c lo : Nat) (H : List HeadR) (i : Nat) : Prop := ∃ L' H', HJ w wr base bh g n c L' H' ∧ H'.Perm H ∧ HI H' lo i ∧ W.grownBy wr (some g)
def IsB (e : Ending) : Prop := ∃ b : Bool, e = .returned (.bool b)
set_option maxHeartbeats 32000000 in
set_option maxRecDepth 100000 in
theorem down_any (w W : World) (base bh g n c lo : Nat) (L : List (List Value)) (H : List HeadR) (h : HJ w W base bh g n c L H) (hb : w.heap.size ≤ base) (hn : n ≤ 1000) (hlo : lo < n) (hf : HF H (lo + 1)) :
    Calls Try.prog 33 #[hIf bh, .int .i64 (lo : Int), .int .i64 (n : Int)] W fun e w' => IsB e ∧ DownC w W w' base bh g n c lo H := by
  have HD := hid (⟨L, H, h, .refl _, HI.start hf, grown_refl _ _⟩ : DownJ w W W base bh g n c lo H lo)
  clear h hf
  go_enter Try.func33, Try.ntmps33
  go_wp2
  go_loopw [7] (fun iv wr => ∃ i : Nat, i < n ∧ iv = .int .i64 i ∧ DownJ w W wr base bh g n c lo H i) (fun iv wr => n - (intOf iv).toNat)
  case atStart => exact ⟨lo, hlo, rfl, HD.out⟩
  case round =>
    clear HD
    obtain ⟨i, hi, rfl, L', H', hJ, hP, hI, hG⟩ := hrel
    have HJ0 := hid hJ
    have HP := hid hP
    have HI0 := hid hI
    have HG := hid hG
    have hlen := hJ.len
    have HLen := hid hlen
    have hmL := run_method wr bh (some ⟨g, 0, none⟩) n c "Less" _ mLess (box_at hJ.box 0 _ rfl)
    clear hJ hP hI hG hlen
    by_cases h1 : 2 * i + 1 < n
    · by_cases h2 : 2 * i + 1 + 1 < n
      · cases hB1 : lessB (eh H' (2 * i + 1 + 1)) (eh H' (2 * i + 1))
        · have HC : Hid (∀ k, 1 ≤ k → k < H'.length → (k - 1) / 2 = i → k ≠ 2 * i + 1 → ¬ LessH (eh H' k) (eh H' (2 * i + 1))) := fun k k1 k2 k3 k4 => by
            obtain rfl : k = 2 * i + 1 + 1 := by omega
            exact lessB_not.1 hB1
          have HB1 := hid hB1
          clear hB1
          cases hB2 : lessB (eh H' (2 * i + 1)) (eh H' i)
          · have HR := hid (HI0.out.stay (lessB_not.1 hB2) HC.out)
            have HB2 := hid hB2
            clear hB2
            go_wp2_with (first
              | (go_at_call 53; (with_reducible refine (less_at w _ base bh g n c (2 * i + 1 + 1) (2 * i + 1) L' H' _ _ (by omega) (by omega) HJ0.out (by omega) (by omega) hn).mono ?_); rintro r w1 ⟨rfl, hb1⟩; rw [HB1.out]; have HJ1 := hid (HJ0.out.below hb1); have HG1 := hid (grown_below HG.out hb1); have hmL1 := run_method w1 bh (some ⟨g, 0, none⟩) n c "Less" _ mLess (box_at HJ1.out.box 0 _ rfl))
              | (go_at_call 53; (with_reducible refine (less_at w _ base bh g n c (2 * i + 1) i L' H' _ _ (by omega) (by omega) HJ1.out (by omega) hi hn).mono ?_); rintro r w2 ⟨rfl, hb2⟩; rw [HB2.out]; have HJ2 := hid (HJ1.out.below hb2); have HG2 := hid (grown_below HG1.out hb2); have hmS2 := run_method w2 bh (some ⟨g, 0, none⟩) n c "Swap" _ mSwap (box_at HJ2.out.box 0 _ rfl)))
            go_ret
            exact ⟨⟨_, rfl⟩, L', H', HJ2.out, HP.out, HR.out, HG2.out⟩
          · have HN := hid (HI0.out.swap (j := 2 * i + 1) (by omega) (by omega) (by rw [HLen.out]; omega) (by rw [HLen.out]; exact hi) (lessB_iff.1 hB2) HC.out)
            have HPm := hid ((swapL_perm noHd H' i (2 * i + 1) (by rw [HLen.out]; exact hi) (by rw [HLen.out]; omega) (by omega)).trans HP.out)
            have HB2 := hid hB2
            clear hB2
            go_wp2_with (first
              | (go_at_call 53; (with_reducible refine (less_at w _ base bh g n c (2 * i + 1 + 1) (2 * i + 1) L' H' _ _ (by omega) (by omega) HJ0.out (by omega) (by omega) hn).mono ?_); rintro r w1 ⟨rfl, hb1⟩; rw [HB1.out]; have HJ1 := hid (HJ0.out.below hb1); have HG1 := hid (grown_below HG.out hb1); have hmL1 := run_method w1 bh (some ⟨g, 0, none⟩) n c "Less" _ mLess (box_at HJ1.out.box 0 _ rfl))
              | (go_at_call 53; (with_reducible refine (less_at w _ base bh g n c (2 * i + 1) i L' H' _ _ (by omega) (by omega) HJ1.out (by omega) hi hn).mono ?_); rintro r w2 ⟨rfl, hb2⟩; rw [HB2.out]; have HJ2 := hid (HJ1.out.below hb2); have HG2 := hid (grown_below HG1.out hb2); have hmS2 := run_method w2 bh (some ⟨g, 0, none⟩) n c "Swap" _ mSwap (box_at HJ2.out.box 0 _ rfl))
              | (go_at_call 54; (with_reducible refine (swap_at w _ base bh g n c i (2 * i + 1) L' H' _ _ (by omega) (by omega) HJ2.out hb hi (by omega) (by omega) hn).mono ?_); rintro r w3 ⟨rfl, hJ3, hg3⟩; have HJ3 := hid hJ3; have HG3 := hid (grown_trans HG2.out hg3); clear hJ3 hg3))
            go_roundw
            case rel => exact ⟨2 * i + 1, by omega, by go_num, _, _, HJ3.out, HPm.out, HN.out, HG3.out⟩
            case measure => simp [intOf]; omega
        · have HC : Hid (∀ k, 1 ≤ k → k < H'.length → (k - 1) / 2 = i → k ≠ 2 * i + 1 + 1 → ¬ LessH (eh H' k) (eh H' (2 * i + 1 + 1))) := fun k k1 k2 k3 k4 => by
            obtain rfl : k = 2 * i + 1 := by omega
            exact (lessB_iff.1 hB1).asym
          have HB1 := hid hB1
          clear hB1
          cases hB2 : lessB (eh H' (2 * i + 1 + 1)) (eh H' i)
          · have HR := hid (HI0.out.stay (lessB_not.1 hB2) HC.out)
            have HB2 := hid hB2
            clear hB2
            go_wp2_with (first
              | (go_at_call 53; (with_reducible refine (less_at w _ base bh g n c (2 * i + 1 + 1) (2 * i + 1) L' H' _ _ (by omega) (by omega) HJ0.out (by omega) (by omega) hn).mono ?_); rintro r w1 ⟨rfl, hb1⟩; rw [HB1.out]; have HJ1 := hid (HJ0.out.below hb1); have HG1 := hid (grown_below HG.out hb1); have hmL1 := run_method w1 bh (some ⟨g, 0, none⟩) n c "Less" _ mLess (box_at HJ1.out.box 0 _ rfl))
              | (go_at_call 53; (with_reducible refine (less_at w _ base bh g n c (2 * i + 1 + 1) i L' H' _ _ (by omega) (by omega) HJ1.out (by omega) hi hn).mono ?_); rintro r w2 ⟨rfl, hb2⟩; rw [HB2.out]; have HJ2 := hid (HJ1.out.below hb2); have HG2 := hid (grown_below HG1.out hb2); have hmS2 := run_method w2 bh (some ⟨g, 0, none⟩) n c "Swap" _ mSwap (box_at HJ2.out.box 0 _ rfl)))
            go_ret
            exact ⟨⟨_, rfl⟩, L', H', HJ2.out, HP.out, HR.out, HG2.out⟩
          · have HN := hid (HI0.out.swap (j := 2 * i + 1 + 1) (by omega) (by omega) (by rw [HLen.out]; omega) (by rw [HLen.out]; exact hi) (lessB_iff.1 hB2) HC.out)
            have HPm := hid ((swapL_perm noHd H' i (2 * i + 1 + 1) (by rw [HLen.out]; exact hi) (by rw [HLen.out]; omega) (by omega)).trans HP.out)
            have HB2 := hid hB2
            clear hB2
            go_wp2_with (first
              | (go_at_call 53; (with_reducible refine (less_at w _ base bh g n c (2 * i + 1 + 1) (2 * i + 1) L' H' _ _ (by omega) (by omega) HJ0.out (by omega) (by omega) hn).mono ?_); rintro r w1 ⟨rfl, hb1⟩; rw [HB1.out]; have HJ1 := hid (HJ0.out.below hb1); have HG1 := hid (grown_below HG.out hb1); have hmL1 := run_method w1 bh (some ⟨g, 0, none⟩) n c "Less" _ mLess (box_at HJ1.out.box 0 _ rfl))
              | (go_at_call 53; (with_reducible refine (less_at w _ base bh g n c (2 * i + 1 + 1) i L' H' _ _ (by omega) (by omega) HJ1.out (by omega) hi hn).mono ?_); rintro r w2 ⟨rfl, hb2⟩; rw [HB2.out]; have HJ2 := hid (HJ1.out.below hb2); have HG2 := hid (grown_below HG1.out hb2); have hmS2 := run_method w2 bh (some ⟨g, 0, none⟩) n c "Swap" _ mSwap (box_at HJ2.out.box 0 _ rfl))
              | (go_at_call 54; (with_reducible refine (swap_at w _ base bh g n c i (2 * i + 1 + 1) L' H' _ _ (by omega) (by omega) HJ2.out hb hi (by omega) (by omega) hn).mono ?_); rintro r w3 ⟨rfl, hJ3, hg3⟩; have HJ3 := hid hJ3; have HG3 := hid (grown_trans HG2.out hg3); clear hJ3 hg3))
            go_roundw
            case rel => exact ⟨2 * i + 1 + 1, by omega, by go_num, _, _, HJ3.out, HPm.out, HN.out, HG3.out⟩
            case measure => simp [intOf]; omega
      · have HC : Hid (∀ k, 1 ≤ k → k < H'.length → (k - 1) / 2 = i → k ≠ 2 * i + 1 → ¬ LessH (eh H' k) (eh H' (2 * i + 1))) := fun k k1 k2 k3 k4 => by
          have := HLen.out
          omega
        cases hB2 : lessB (eh H' (2 * i + 1)) (eh H' i)
        · have HR := hid (HI0.out.stay (lessB_not.1 hB2) HC.out)
          have HB2 := hid hB2
          clear hB2
          go_wp2_with (first
            | (go_at_call 53; (with_reducible refine (less_at w _ base bh g n c (2 * i + 1) i L' H' _ _ (by omega) (by omega) HJ0.out (by omega) hi hn).mono ?_); rintro r w2 ⟨rfl, hb2⟩; rw [HB2.out]; have HJ2 := hid (HJ0.out.below hb2); have HG2 := hid (grown_below HG.out hb2); have hmS2 := run_method w2 bh (some ⟨g, 0, none⟩) n c "Swap" _ mSwap (box_at HJ2.out.box 0 _ rfl)))
          go_ret
          exact ⟨⟨_, rfl⟩, L', H', HJ2.out, HP.out, HR.out, HG2.out⟩
        · have HN := hid (HI0.out.swap (j := 2 * i + 1) (by omega) (by omega) (by rw [HLen.out]; omega) (by rw [HLen.out]; exact hi) (lessB_iff.1 hB2) HC.out)
          have HPm := hid ((swapL_perm noHd H' i (2 * i + 1) (by rw [HLen.out]; exact hi) (by rw [HLen.out]; omega) (by omega)).trans HP.out)
          have HB2 := hid hB2
          clear hB2
          go_wp2_with (first
            | (go_at_call 53; (with_reducible refine (less_at w _ base bh g n c (2 * i + 1) i L' H' _ _ (by omega) (by omega) HJ0.out (by omega) hi hn).mono ?_); rintro r w2 ⟨rfl, hb2⟩; rw [HB2.out]; have HJ2 := hid (HJ0.out.below hb2); have HG2 := hid (grown_below HG.out hb2); have hmS2 := run_method w2 bh (some ⟨g, 0, none⟩) n c "Swap" _ mSwap (box_at HJ2.out.box 0 _ rfl))
            | (go_at_call 54; (with_reducible refine (swap_at w _ base bh g n c i (2 * i + 1) L' H' _ _ (by omega) (by omega) HJ2.out hb hi (by omega) (by omega) hn).mono ?_); rintro r w3 ⟨rfl, hJ3, hg3⟩; have HJ3 := hid hJ3; have HG3 := hid (grown_trans HG2.out hg3); clear hJ3 hg3))
          go_roundw
          case rel => exact ⟨2 * i + 1, by omega, by go_num, _, _, HJ3.out, HPm.out, HN.out, HG3.out⟩
          case measure => simp [intOf]; omega
    · have HR := hid (HI0.out.leaf (by rw [HLen.out]; omega))
      go_wp2
      go_ret
      exact ⟨⟨_, rfl⟩, L', H', HJ0.out, HP.out, HR.out, HG.out⟩
end Go.Proofs.Ytnjhiiakpndnnaa
