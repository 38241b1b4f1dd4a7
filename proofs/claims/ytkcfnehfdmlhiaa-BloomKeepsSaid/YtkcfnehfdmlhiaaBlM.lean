/- Layer 10: more keys than may be: the walk of the statement. -/
import Derived.Test.YtkcfnehfdmlhiaaBlV
namespace Go.Proofs.Ytkcfnehfdmlhiaa
open Go.RowKit
set_option linter.unusedVariables false
set_option linter.unusedSimpArgs false

theorem sliceinfo : (Try.prog.info? 22).map (fun i => (i.zero, i.size, i.bytes)) = some (some (.slice none 0 0), 1, 24) := by kernel_rfl
theorem buildmany_any (A : Option Addr) (n c : Nat) (w : World) (hn : 100000 < n) (h63 : n ≤ 9223372036854775807) :
    Calls Try.prog 16 #[.slice A n c] w fun e w' => e = .returned (.tuple #[.slice none 0 0, .int .i64 13]) ∧ w = w' := by
  go_enter Try.func16, Try.ntmps16
  go_wp2
  go_ret2
  exact ⟨rfl, rfl⟩
theorem RBs.nils (w : World) (N : Nat) (hN : N ≤ 9223372036854775807) : RBs (w.alloc (.cells (madeCells #[.slice none 0 0] N) 22)) (some ⟨w.heap.size, 0, none⟩) N (List.replicate N []) := by
  refine ⟨by simp, hN, fun _ => ⟨_, rfl, fun j hj => ⟨none, 0, 0, ?_, ?_, Nat.le_refl _⟩⟩⟩
  · rw [add_plain, Nat.zero_add, cell_of_row _ _ _ _ _ _ (heap_alloc_new w _)]
    simp [madeCells, hj, Nat.mod_one]
  · have : elt ([] : List UInt8) (List.replicate N []) j = [] := by simp [elt, hj]
    rw [this]
    exact RB.nil _
theorem filterB_len (xss : List (List UInt8)) : (filterB xss).length = sizeF xss.length := fillUpto_len _ _ _ _

set_option maxHeartbeats 8000000 in
set_option maxRecDepth 100000 in
theorem BloomMany_walk (z : Int) (w : World) (hz : (Lit.int .i64 z).wf = true) :
    Calls Try.prog 6 #[.int .i64 z] w fun e w' => e = .returned (.bool true) ∧ Below w.heap.size w w' := by
  have hm := wf_i64 hz
  have hmk : ∀ (N : Nat) (u : World), N ≤ 100001 → (Instr.makeSlice 30 (.int .i64 (N : Int)) (.int .i64 (N : Int))).run Try.prog u = .ok (.slice (some ⟨u.heap.size, 0, none⟩) N N) (u.alloc (.cells (madeCells #[.slice none 0 0] N) 22)) := fun N u hN => by
    obtain ⟨i, hi, hz0, hz1, hz2⟩ := info_parts sliceinfo
    have h := run_make (P := Try.prog) u 30 22 i (.slice none 0 0) Try.underlying30 hi hz0 .i64 .i64 (N : Int) (N : Int) (by omega) (Int.le_refl _) (by rw [hz2]; omega) (by omega)
    simpa [hz1, Value.cells] using h
  obtain ⟨N, hN1, hN2, hE⟩ : ∃ N : Nat, 99999 ≤ N ∧ N ≤ 100001 ∧ wrap64 ((wrap64 (z.tmod 3 + 3)).tmod 3 + 99999) = (N : Int) := by
    have h1 := Int.tmod_lt_of_pos z (show (0 : Int) < 3 by decide)
    have h2 := Int.lt_tmod_of_pos z (show (0 : Int) < 3 by decide)
    generalize z.tmod 3 = t at *
    have e1 : wrap64 (t + 3) = t + 3 := by unfold wrap64; omega
    rw [e1]
    have h3 : (t + 3).tmod 3 = (t + 3) % 3 := Int.tmod_eq_emod_of_nonneg (by omega)
    rw [h3]
    refine ⟨((t + 3) % 3 + 99999).toNat, by omega, by omega, ?_⟩
    unfold wrap64
    omega
  have hmk2 := fun u => hmk N u hN2
  clear hmk hz hm
  have HS := RBs.nils w N (by omega)
  have hlenF : (filterB (List.replicate N [])).length = sizeF N := by rw [filterB_len, List.length_replicate]
  obtain ⟨S, hS⟩ : ∃ S, S = sizeF N := ⟨_, rfl⟩
  rw [← hS] at hlenF
  have hSz : (10 * (N : Int) + 7) / 8 = (S : Int) := by rw [hS]; unfold sizeF; rw [if_pos (by omega)]; omega
  have HL := hid hlenF
  have HSS := hid HS
  clear hlenF hS HS
  by_cases hbig : 100000 < N
  · have hb1 : (100000 : Int) < (N : Int) := by omega
    go_enter Try.func6, Try.ntmps6
    go_wp2_with (first
      | (go_at_call 16; (with_reducible refine (buildmany_any _ N _ _ hbig (by omega)).mono ?_); rintro e w2 ⟨rfl, rfl⟩)
      | (go_at_call 12; (with_reducible refine (awake_any _).mono ?_); rintro e w4 ⟨rfl, rfl⟩))
    go_ret
    exact ⟨rfl, below_alloc' (Below.refl _ _) _⟩
  · have hb1 : ¬ ((100000 : Int) < (N : Int)) := by omega
    go_enter Try.func6, Try.ntmps6
    go_wp2_with (first
      | (go_at_call 16; (with_reducible refine (build_any _ N _ _ _ HSS.out (by omega)).mono ?_); rintro e w2 ⟨v2, rfl, hown2, hb2⟩; obtain ⟨A2, c2, rfl, hr2, hc2⟩ := hown2.openN S HL.out)
      | (go_at_call 12; (with_reducible refine (awake_any _).mono ?_); rintro e w4 ⟨rfl, rfl⟩))
    go_ret
    exact ⟨rfl, below_then (below_alloc' (Below.refl _ _) _) hb2⟩
end Go.Proofs.Ytkcfnehfdmlhiaa
