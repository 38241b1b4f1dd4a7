/- Layer 6: the program's Scan: the walk. -/
import Derived.Test.YtkcdjmipmpeedaaFrS
namespace Go.Proofs.Ytkcdjmipmpeedaa
open Go.RowKit
set_option linter.unusedVariables false
set_option linter.unusedSimpArgs false

set_option maxHeartbeats 8000000 in
set_option maxRecDepth 100000 in
theorem fscan_any (A : Option Addr) (n c : Nat) (xs : List UInt8) (w : World) (h : RB w A n xs) (hc : n ≤ c) (hsz : n ≤ 1099511627776) :
    Calls Try.prog 13 #[.slice A n c] w fun e w' => ∃ v V, e = .returned (.tuple #[v, .int .i64 ((scanB xs).2 : Nat)]) ∧ OS w' w.heap.size v V ∧ OBs w' w.heap.size V (scanB xs).1 ∧ Below w.heap.size w w' := by
  have hl := h.1
  have HL := hid hl
  clear hl
  go_enter Try.func13, Try.ntmps13
  go_wp2
  refine wp_scope_ghost 0 (fun k a' w' => ∃ (a : Nat) (V : List Value) (b u6 u7 u8 u9 u10 u11 u12 u13 u14 u15 u16 u17 u18 u19 u20 u21 u22 u23 u24 u25 u26 u27 u28 u29 u30 u31 : Value), a' = { tmps := #[.slice A n c, undef, .slice none 0 0, .int .i64 0, b, .int .i64 a, u6, u7, u8, u9, u10, u11, u12, u13, u14, u15, u16, u17, u18, u19, u20, u21, u22, u23, u24, u25, u26, u27, u28, u29, u30, u31], defers := [] } ∧ (scanB xs).2 = a ∧ OS w' w.heap.size b V ∧ OBs w' w.heap.size V (scanB xs).1 ∧ Below w.heap.size w w') rfl ?_ ?_
  · rintro k a' w' ⟨a, V, b, u6, u7, u8, u9, u10, u11, u12, u13, u14, u15, u16, u17, u18, u19, u20, u21, u22, u23, u24, u25, u26, u27, u28, u29, u30, u31, rfl, hfin, hos, hobs, hB⟩
    have HFI := hid hfin
    clear hfin
    go_wp2
    simp only [Exit.jump]
    go_ret2
    exact ⟨_, V, ret2i (by rw [HFI.out]), hos, hobs, hB⟩
  intro hpass
  go_wp2
  go_loopw [4, 5] (fun b i wr => ∃ (a : Nat) (recs : List (List UInt8)) (V : List Value), i = .int .i64 a ∧ a ≤ n ∧ ScanAt xs a recs ∧ OS wr w.heap.size b V ∧ OBs wr w.heap.size V recs ∧ Below w.heap.size w wr) (fun b i wr => n - (intOf i).toNat)
  case atStart => exact ⟨0, [], [], rfl, Nat.zero_le _, ScanAt.start _, OS.nil _ _, OBs.nil _ _, Below.refl _ _⟩
  case round =>
    obtain ⟨a, recs, V, rfl, ha, hscan, hos, hobs, hB⟩ := hrel
    have HS := hid hscan
    have hrl := hscan.2.1
    have hvl := hobs.1
    clear hscan
    by_cases hlt : a < n
    · obtain ⟨A2, c2, hsl, hrs, hc2⟩ := cutB_lo (A := A) (n := n) (c := c) hc (lo := a) ha (a : Int) rfl
      have hr2 := hrs _ _ (h.below hB)
      obtain ⟨N, E, hNE⟩ : ∃ p q, (ftakeB (xs.drop a)).2.1 = p ∧ (ftakeB (xs.drop a)).2.2 = q := ⟨_, _, rfl, rfl⟩
      have hu := ftakeB_used (xs.drop a)
      rw [hNE.1, hNE.2, List.length_drop, HL.out] at hu
      have HNE := hid hNE
      have HU := hid hu
      clear hNE hu hrs
      obtain ⟨L1, hL1⟩ : ∃ l, (ftakeB (xs.drop a)).1.length = l := ⟨_, rfl⟩
      have HL1 := hid hL1
      clear hL1
      by_cases hE : E = 0
      · have hN := HU.out hE
        subst hE
        go_wp2_with (first
          | (go_at_call 11; (with_reducible refine (ftake_any A2 (n - a) c2 _ _ hr2 hc2 (by omega)).mono ?_); rintro e w1 ⟨v1, rfl, hown1, hb1⟩; rw [HNE.out.1, HNE.out.2]; obtain ⟨A1, c1, rfl, hr1, hc1⟩ := hown1.openN L1 HL1.out; have hos1 := hos.below hb1; have hobs1 := hobs.below hb1; have hB1 := below_then hB hb1)
          | (at_builtin; refine wpS_append1g w w1 w.heap.size rfl (.tmp 23) (.tmp 25) rfl _ V rfl (by exact hos1) (.slice A1 L1 c1) rfl 1 _ rfl rfl (by rw [hvl]; omega) hB1 hB1.size ?_; intro v2 w2 hos2 hB2 hg2))
        go_roundw
        case rel => exact ⟨a + N, recs ++ [(ftakeB (xs.drop a)).1], V ++ [.slice A1 L1 c1], by push_cast; rfl, by omega, by rw [← HNE.out.1]; exact HS.out.next (by rw [HL.out]; exact hlt) HNE.out.2, hos2, (hobs1.snoc (hown1.mono hB.size)).other hos1 hg2, hB2⟩
        case measure => simp [intOf]; omega
      · have hE2 : ¬ ((E : Int) = 0) := by omega
        go_wp2_with (go_at_call 11; (with_reducible refine (ftake_any A2 (n - a) c2 _ _ hr2 hc2 (by omega)).mono ?_); rintro e w1 ⟨v1, rfl, hown1, hb1⟩; rw [HNE.out.1, HNE.out.2])
        have hfin := HS.out.stop (by rw [HNE.out.2]; exact hE)
        exact wp_goto ⟨rfl, 0, a, V, _, _, _, _, _, _, _, _, _, _, _, _, _, _, _, _, _, _, _, _, _, _, _, _, _, _, _, rfl, by rw [hfin], hos.below hb1, by rw [hfin]; exact hobs.below hb1, below_then hB hb1⟩
    · obtain rfl : a = n := by omega
      have hfin := HS.out.done HL.out.symm
      go_wp2
      exact wp_label_k (by assumption) (hpass 0 _ _ ⟨a, V, _, _, _, _, _, _, _, _, _, _, _, _, _, _, _, _, _, _, _, _, _, _, _, _, _, _, _, rfl, by rw [hfin], hos, by rw [hfin]; exact hobs, hB⟩)
end Go.Proofs.Ytkcdjmipmpeedaa
