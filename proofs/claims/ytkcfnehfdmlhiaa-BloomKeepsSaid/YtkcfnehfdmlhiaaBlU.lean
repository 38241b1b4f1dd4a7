/- Layer 10: the document's Filter: the walk. -/
import Derived.Test.YtkcfnehfdmlhiaaBlT
namespace Go.Proofs.Ytkcfnehfdmlhiaa
open Go.RowKit
set_option linter.unusedVariables false
set_option linter.unusedSimpArgs false

theorem probesL_nat {xs : List UInt8} {M : Nat} (hM : 0 < M) : probesL xs (M : Int) = probesI (hashN xs) M 6 := by
  unfold probesL
  rw [if_neg (by omega)]
  rfl
set_option maxHeartbeats 8000000 in
theorem filter_any (A : Option Addr) (n c : Nat) (xss : List (List UInt8)) (w : World) (h : RBs w A n xss) (hn : n ≤ 100000) :
    Calls Try.prog 17 #[.slice A n c] w fun e w' => ∃ v, e = .returned v ∧ OB w' w.heap.size v (filterB xss) ∧ Below w.heap.size w w' := by
  have hl := h.1
  obtain ⟨S, hS⟩ : ∃ S, S = sizeF n := ⟨_, rfl⟩
  have hS8 : 8 ≤ S ∧ S ≤ 125001 := by rw [hS]; unfold sizeF; split <;> omega
  have hF : filterB xss = fillUpto xss (8 * S) S n := by unfold filterB; rw [hl, ← hS]
  rw [hF]
  have hmk : ∀ u : World, (Instr.makeSlice 22 (.int .i64 (S : Int)) (.int .i64 (S : Int))).run Try.prog u = .ok (.slice (some ⟨u.heap.size, 0, none⟩) S S) (u.alloc (.cells (madeCells #[.int .u8 0] S) 5)) := fun u => by
    obtain ⟨i, hi, hz0, hz1, hz2⟩ := info_parts u8info
    have h := run_make (P := Try.prog) u 22 5 i (.int .u8 0) Try.underlying22 hi hz0 .i64 .i64 (S : Int) (S : Int) (by omega) (Int.le_refl _) (by rw [hz2]; omega) (by omega)
    simpa [hz1, Value.cells] using h
  have hSz : ∃ E E8 : Int, E = (S : Int) ∧ E8 = ((8 * S : Nat) : Int) ∧ ((10 * n ≤ 64 ∧ E = 8 ∧ E8 = 64) ∨ (64 < 10 * n ∧ E = (10 * (n : Int) + 7) / 8 ∧ E8 = (10 * (n : Int) + 7) / 8 * 8)) := by
    refine ⟨(S : Int), _, rfl, rfl, ?_⟩
    rw [hS]
    unfold sizeF
    by_cases hb : 64 < 10 * n
    · rw [if_pos hb]; exact .inr ⟨hb, by omega, by omega⟩
    · rw [if_neg hb]; exact .inl ⟨by omega, by omega, by omega⟩
  obtain ⟨E, E8, hE, hE8, hcase⟩ := hSz
  rw [← hE] at hmk
  obtain ⟨M, hM⟩ : ∃ M, M = 8 * S := ⟨_, rfl⟩
  rw [← hM] at hE8 ⊢
  have HE8 := hid hE8
  have hM0 : 0 < M := by omega
  have hM64 : M < 18446744073709551616 := by omega
  have hS64 := u64_in S (by omega)
  have hM64i : IntKind.u64.wrap ((S : Int) * 8) = (M : Int) := by rw [IntKind.wrap_u64]; omega
  have H := hid h
  have HM := hid hM
  clear hS hF hE hE8 h hl hM
  rcases hcase with ⟨hb, rfl, rfl⟩ | ⟨hb, rfl, rfl⟩
  all_goals
    have hb' : (64 : Int) < 10 * (n : Int) ↔ 64 < 10 * n := by omega
    go_enter Try.func17, Try.ntmps17
    go_wp2
    go_loopw [21] (fun i wr => ∃ k : Nat, k ≤ n ∧ i = .int .i64 k ∧ OB wr w.heap.size (.slice (some ⟨w.heap.size, 0, none⟩) S S) (fillUpto xss M S k) ∧ Below w.heap.size w wr) (fun i wr => n - (intOf i).toNat)
    case atStart => exact ⟨0, Nat.zero_le _, rfl, OB.zeros _ _ _ (Nat.le_refl _) (by omega), below_alloc' (Below.refl _ _) _⟩
    case round =>
      obtain ⟨k, hk, rfl, hown, hB⟩ := hrel
      by_cases hlt : k < n
      · obtain ⟨ad, rfl, Aj, nj, cj, hcell, hrb, hle⟩ := H.out.at_ hlt
        have hcell2 := below_cell hB hcell
        obtain ⟨h0, hh0⟩ : ∃ h, h = hashN (elt [] xss k) := ⟨_, rfl⟩
        have HH0 := hid hh0
        clear hh0 hcell
        go_wp2_with (go_at_call 9; (with_reducible refine (refprobes_any Aj nj cj _ _ _ (hrb.below hB) (by have := HE8.out; omega)).mono ?_); rintro e w1 ⟨v1, rfl, howni, hb1⟩; rw [HE8.out, probesL_nat hM0, ← HH0.out] at howni; obtain ⟨g1, d1, rfl, hg1, _, _⟩ := howni.form 6 (probesI_len _ _ _) (by omega))
        have hown1 := hown.below hb1
        have hB1 := below_then hB hb1
        have hcells : ∀ j, j < 6 → w1.cell? ⟨g1, j, none⟩ = some (.int .i64 (place h0 M j : Int)) := fun j hj => by
          have := howni.cell (probesI_len _ _ _) hj
          rw [probesI_at hj] at this
          exact this
        have hne : g1 ≠ w.heap.size := by
          obtain ⟨cur, hcur⟩ := hown.blk
          have := (Array.getElem?_eq_some_iff.1 hcur).1
          omega
        clear hown hB hb1 hcell2 howni
        go_loopw [29] (fun i wr2 => ∃ j : Nat, j ≤ 6 ∧ i = .int .i64 j ∧ OB wr2 w.heap.size (.slice (some ⟨w.heap.size, 0, none⟩) S S) (addUpto (fillUpto xss M S k) M h0 j) ∧ Below w.heap.size w wr2 ∧ ∀ j, j < 6 → wr2.cell? ⟨g1, j, none⟩ = some (.int .i64 (place h0 M j : Int))) (fun i wr2 => 6 - (intOf i).toNat)
        case atStart => exact ⟨0, by omega, rfl, hown1, hB1, hcells⟩
        case round =>
          clear hown1 hB1 hcells
          obtain ⟨j, hj, rfl, hown2, hB2, hcs⟩ := hrel
          by_cases hlt6 : j < 6
          · have hpl := place_lt (h := h0) j hM0
            have hix := hcs j hlt6
            have HCS := hid hcs
            clear hcs
            obtain ⟨P, hP⟩ : ∃ P, P = place h0 M j := ⟨_, rfl⟩
            rw [← hP] at hix hpl
            have HPP := hid hP
            clear hP
            have hP8 : P / 8 < S := by have := HM.out; omega
            have k0 := hown2.cell (j := P / 8) hP8
            have f0 := hown2.frozen (P / 8)
            have hP9 : (P : Int) ≤ 1000008 := by have := HM.out; omega
            have hmod64 : IntKind.u64.wrap ((P : Int) % 8) = (P : Int) % 8 := by rw [IntKind.wrap_u64]; omega
            have hor := or_bit' (bAt_lt (addUpto (fillUpto xss M S k) M h0 j) (P / 8)) (show P % 8 < 8 by omega)
            have HO := hid hor
            clear hor
            go_wp2
            go_roundw
            case rel => exact ⟨j + 1, by omega, by go_num, by rw [addUpto, ← HPP.out]; exact hown2.set (P / 8) _ HO.out, hB2.setCell (Nat.le_refl _) _, fun i hi => by rw [World.cell?_setCell_other _ _ _ _ (by intro e; injection e with e1; exact hne e1.symm)]; exact HCS.out i hi⟩
            case measure => simp [intOf]; omega
          · obtain rfl : j = 6 := by omega
            go_wp2
            go_roundw
            case rel => exact ⟨k + 1, by omega, by go_num, by rw [HH0.out] at hown2; exact hown2, hB2⟩
            case measure => simp [intOf]; omega
      · obtain rfl : k = n := by omega
        go_wp2
        go_ret
        exact ⟨_, rfl, hown, hB⟩
end Go.Proofs.Ytkcfnehfdmlhiaa
