/- Layer 6: Scan: the walks. -/
import Derived.Test.YtkcdjmipmpeedaaFrU
import Derived.Test.YtkcdjmipmpeedaaOR
namespace Go.Proofs.Ytkcdjmipmpeedaa
open Go.RowKit
set_option linter.unusedVariables false
set_option linter.unusedSimpArgs false

theorem scan_at_end {xs : List UInt8} {a : Nat} (h : a = xs.length) : scanB (xs.drop a) = ([], 0) := by
  subst h
  rw [List.drop_length]
  exact scanB_nil
theorem OB.one {w : World} {base : Nat} {v : Value} {xs : List UInt8} (h : OB w base v xs) : v.oneCell' = true := by
  obtain ⟨A, c, rfl⟩ := own_slice h
  rfl
theorem ret2i {v : Value} {a b : Int} (h : a = b) : Ending.returned (.tuple #[v, .int .i64 a]) = .returned (.tuple #[v, .int .i64 b]) := by rw [h]
def ScanAt (xs : List UInt8) (a : Nat) (recs : List (List UInt8)) : Prop := scanB xs = (recs ++ (scanB (xs.drop a)).1, a + (scanB (xs.drop a)).2) ∧ 5 * recs.length ≤ a ∧ a ≤ xs.length
theorem ScanAt.start (xs : List UInt8) : ScanAt xs 0 [] := ⟨by simp, by simp, by omega⟩
theorem ScanAt.next {xs : List UInt8} {a : Nat} {recs : List (List UInt8)} (h : ScanAt xs a recs) (ha : a < xs.length) (he : (ftakeB (xs.drop a)).2.2 = 0) : ScanAt xs (a + (ftakeB (xs.drop a)).2.1) (recs ++ [(ftakeB (xs.drop a)).1]) := by
  obtain ⟨h1, h2, h3⟩ := h
  have hu := ftakeB_used _ he
  rw [List.length_drop] at hu
  have hne : xs.drop a ≠ [] := by
    intro e
    have := congrArg List.length e
    rw [List.length_drop] at this
    simp at this
    omega
  rw [scanB_next hne he, List.drop_drop] at h1
  refine ⟨?_, by rw [List.length_append]; simp; omega, by omega⟩
  rw [h1]
  simp [Nat.add_assoc]
theorem ScanAt.stop {xs : List UInt8} {a : Nat} {recs : List (List UInt8)} (h : ScanAt xs a recs) (he : (ftakeB (xs.drop a)).2.2 ≠ 0) : scanB xs = (recs, a) := by
  rw [h.1, scanB_stop he]
  simp
theorem ScanAt.done {xs : List UInt8} {a : Nat} {recs : List (List UInt8)} (h : ScanAt xs a recs) (he : a = xs.length) : scanB xs = (recs, a) := by
  rw [h.1, scan_at_end he]
  simp
set_option maxHeartbeats 8000000 in
set_option maxRecDepth 100000 in
theorem refscan_any (A : Option Addr) (n c : Nat) (xs : List UInt8) (w : World) (h : RB w A n xs) (hc : n ≤ c) (hsz : n ≤ 1099511627776) :
    Calls Try.prog 14 #[.slice A n c] w fun e w' => ∃ v V, e = .returned (.tuple #[v, .int .i64 ((scanB xs).2 : Nat)]) ∧ OS w' w.heap.size v V ∧ OBs w' w.heap.size V (scanB xs).1 ∧ Below w.heap.size w w' := by
  have hl := h.1
  have HL := hid hl
  clear hl
  go_enter Try.func14, Try.ntmps14
  go_wp2
  go_loopw [4, 5] (fun b i wr => ∃ (a : Nat) (recs : List (List UInt8)) (V : List Value), i = .int .i64 a ∧ a ≤ n ∧ ScanAt xs a recs ∧ OS wr w.heap.size b V ∧ OBs wr w.heap.size V recs ∧ Below w.heap.size w wr) (fun b i wr => n - (intOf i).toNat)
  case atStart => exact ⟨0, [], [], rfl, Nat.zero_le _, ScanAt.start _, OS.nil _ _, OBs.nil _ _, Below.refl _ _⟩
  case round =>
    obtain ⟨a, recs, V, rfl, ha, hscan, hos, hobs, hB⟩ := hrel
    have HS := hid hscan
    have hrl := hscan.2.1
    have hvl := hobs.1
    clear hscan
    by_cases hlt : a < n
    · obtain ⟨A2, c2, hsl, hrs, hc2⟩ := cutB_lo (A := A) (n := n) (c := c) hc (lo := a) ha (a : Int) rfl
      have hr2 := hrs _ _ (h.below hB)
      obtain ⟨N, E, hNE⟩ : ∃ p q, (ftakeB (xs.drop a)).2.1 = p ∧ (ftakeB (xs.drop a)).2.2 = q := ⟨_, _, rfl, rfl⟩
      have hu := ftakeB_used (xs.drop a)
      rw [hNE.1, hNE.2, List.length_drop, HL.out] at hu
      have HNE := hid hNE
      have HU := hid hu
      clear hNE hu hrs
      obtain ⟨L1, hL1⟩ : ∃ l, (ftakeB (xs.drop a)).1.length = l := ⟨_, rfl⟩
      have HL1 := hid hL1
      clear hL1
      by_cases hE : E = 0
      · have hN := HU.out hE
        subst hE
        go_wp2_with (first
          | (go_at_call 12; (with_reducible refine (refftake_any A2 (n - a) c2 _ _ hr2 hc2 (by omega)).mono ?_); rintro e w1 ⟨v1, rfl, hown1, hb1⟩; rw [HNE.out.1, HNE.out.2]; obtain ⟨A1, c1, rfl, hr1, hc1⟩ := hown1.openN L1 HL1.out; have hos1 := hos.below hb1; have hobs1 := hobs.below hb1; have hB1 := below_then hB hb1)
          | (at_builtin; refine wpS_append1g w w1 w.heap.size rfl (.tmp 23) (.tmp 25) rfl _ V rfl (by exact hos1) (.slice A1 L1 c1) rfl 1 _ rfl rfl (by rw [hvl]; omega) hB1 hB1.size ?_; intro v2 w2 hos2 hB2 hg2))
        go_roundw
        case rel => exact ⟨a + N, recs ++ [(ftakeB (xs.drop a)).1], V ++ [.slice A1 L1 c1], by push_cast; rfl, by omega, by rw [← HNE.out.1]; exact HS.out.next (by rw [HL.out]; exact hlt) HNE.out.2, hos2, (hobs1.snoc (hown1.mono hB.size)).other hos1 hg2, hB2⟩
        case measure => simp [intOf]; omega
      · have hE2 : ¬ ((E : Int) = 0) := by omega
        go_wp2_with (go_at_call 12; (with_reducible refine (refftake_any A2 (n - a) c2 _ _ hr2 hc2 (by omega)).mono ?_); rintro e w1 ⟨v1, rfl, hown1, hb1⟩; rw [HNE.out.1, HNE.out.2])
        have hfin := HS.out.stop (by rw [HNE.out.2]; exact hE)
        go_ret2
        exact ⟨_, V, ret2i (by rw [hfin]), hos.below hb1, by rw [hfin]; exact hobs.below hb1, below_then hB hb1⟩
    · obtain rfl : a = n := by omega
      have hfin := HS.out.done HL.out.symm
      go_wp2
      go_ret2
      exact ⟨_, V, ret2i (by rw [hfin]), hos, by rw [hfin]; exact hobs, hB⟩
end Go.Proofs.Ytkcdjmipmpeedaa
