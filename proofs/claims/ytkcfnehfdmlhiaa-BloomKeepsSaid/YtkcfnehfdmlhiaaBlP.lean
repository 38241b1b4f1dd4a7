/- Layer 10: the places of a key: the walk. -/
import Derived.Test.YtkcfnehfdmlhiaaBl
import Derived.Laws.Rows
import Derived.Laws.Tables
namespace Go.Proofs.Ytkcfnehfdmlhiaa
open Go.RowKit
set_option linter.unusedVariables false
set_option linter.unusedSimpArgs false

def stepN (h : Nat) : Nat := h / 8589934592 * 2 + 1
def hAt (h j : Nat) : Nat := (h + j * stepN h) % 18446744073709551616
def place (h m j : Nat) : Nat := hAt h j % m
def cells6 (h m j : Nat) : Array Value := Array.ofFn (n := 6) fun i => .int .u64 ((if i.val < j then place h m i.val else 0 : Nat) : Int)
theorem hAt_next {h j : Nat} (hh : h < 18446744073709551616) : IntKind.u64.wrap ((hAt h j : Int) + (stepN h : Int)) = (hAt h (j + 1) : Int) := by
  rw [IntKind.wrap_u64]
  unfold hAt
  rw [Nat.add_mul, Nat.one_mul]
  generalize stepN h = s
  generalize j * s = t
  omega
theorem hAt_zero {h : Nat} (hh : h < 18446744073709551616) : hAt h 0 = h := by
  unfold hAt
  rw [Nat.zero_mul, Nat.add_zero, Nat.mod_eq_of_lt hh]
theorem hAt_lt (h j : Nat) : hAt h j < 18446744073709551616 := by unfold hAt; exact Nat.mod_lt _ (by decide)
theorem cells6_next {h m j : Nat} : (cells6 h m j).setIfInBounds j (.int .u64 (place h m j : Nat)) = cells6 h m (j + 1) := by
  apply Array.ext_getElem?
  intro i
  unfold cells6
  rw [Array.getElem?_setIfInBounds]
  simp only [Array.size_ofFn, Array.getElem?_ofFn]
  by_cases hij : j = i
  · subst hij
    by_cases h6 : j < 6 <;> simp [h6]
  · rw [if_neg hij]
    by_cases h6 : i < 6
    · simp only [h6, ↓reduceDIte]
      by_cases h7 : i < j
      · rw [if_pos h7, if_pos (by omega)]
      · rw [if_neg h7, if_neg (by omega)]
    · simp [h6]
theorem cells6_size (h m j : Nat) : (cells6 h m j).size = 6 := by simp [cells6]
theorem cells6_next' {h m j : Nat} : (cells6 h m j).setIfInBounds j (.int .u64 ((hAt h j : Int) % (m : Int))) = cells6 h m (j + 1) := cells6_next
theorem cells6_get {h m j i : Nat} (hi : i < 6) : (cells6 h m j)[i]? = some (.int .u64 ((if i < j then place h m i else 0 : Nat) : Int)) := by
  unfold cells6
  rw [Array.getElem?_ofFn]
  simp [hi]
theorem cells6_one (h m j : Nat) : (cells6 h m j).all (·.oneCell') = true := by
  rw [Array.all_eq_true]
  intro i hi
  have e := cells6_get (h := h) (m := m) (j := j) (i := i) (by rw [← cells6_size h m j]; exact hi)
  rw [Array.getElem?_eq_getElem hi] at e
  rw [Option.some.inj e]
  rfl
theorem stepN_int (H : Nat) : ((stepN H : Nat) : Int) = (H : Int) / 8589934592 * 2 + 1 := by
  unfold stepN
  rw [Int.natCast_add, Int.natCast_mul, Int.natCast_ediv]
  rfl
theorem cells6_zero (h m : Nat) : cells6 h m 0 = #[.int .u64 0, .int .u64 0, .int .u64 0, .int .u64 0, .int .u64 0, .int .u64 0] := by unfold cells6; rfl
theorem below_setRow {B : Nat} {a w : World} (h : Below B a w) {g : Nat} (hg : B ≤ g) (cs : Array Value) : Below B a (w.setRow g cs) :=
  h.trans ⟨rfl, rfl, rfl, by simp, fun k hk => by
    unfold World.setRow
    simp only [Array.getElem?_modify]
    rw [if_neg (by omega)]⟩
theorem arr6 : (Try.prog.info? 38).map (·.size) = some 6 := by kernel_rfl
set_option maxHeartbeats 8000000 in
set_option maxRecDepth 100000 in
theorem places_any (A : Option Addr) (n c : Nat) (xs : List UInt8) (m : Nat) (w : World) (h : RB w A n xs) (hm0 : 0 < m) (hm : m < 18446744073709551616) :
    Calls Try.prog 18 #[.slice A n c, .int .u64 (m : Int)] w fun e w' => e = .returned (.agg (cells6 (hashN xs) m 6)) ∧ Below w.heap.size w w' := by
  have hh := hashN_lt xs
  obtain ⟨H, hH⟩ : ∃ H, H = hashN xs := ⟨_, rfl⟩
  rw [← hH] at hh ⊢
  have HH := hid hH
  clear hH
  go_enter Try.func18, Try.ntmps18
  go_wp2
  refine wp_scope_ghost 0 (fun k a' w' => ∃ (j : Nat) (x6 x7 u9 u10 u11 u12 u13 u14 u15 u16 u17 u18 u19 u20 u21 u22 u23 u24 u25 u26 u27 : Value), a' = { tmps := #[.slice A n c, .int .u64 m, undef, undef, .pointer (some ⟨w.heap.size, 0, none⟩), .pointer (some ⟨w.heap.size + 1, 0, none⟩), x6, x7, .int .i64 (j : Nat), u9, u10, u11, u12, u13, u14, u15, u16, u17, u18, u19, u20, u21, u22, u23, u24, u25, u26, u27], defers := [] } ∧ x6 = .int .u64 (hAt H j : Nat) ∧ x7 = .int .u64 (stepN H : Nat) ∧ j < 6 ∧ k = 6 - j ∧ Below w.heap.size w w' ∧ w'.heap[w.heap.size]? = some (.cells (cells6 H m 0) 38 (0, 0)) ∧ w'.heap[w.heap.size + 1]? = some (.cells (cells6 H m j) 38 (0, 0))) rfl ?_ ?_
  · rintro k a' w' ⟨j, x6, x7, u9, u10, u11, u12, u13, u14, u15, u16, u17, u18, u19, u20, u21, u22, u23, u24, u25, u26, u27, rfl, rfl, rfl, hj, rfl, hB, hr0, hr1⟩
    have k0 : w'.cell? ⟨w.heap.size + 1, j, none⟩ = some (.int .u64 ((if j < j then place H m j else 0 : Nat) : Int)) := by
      rw [cell_of_row _ _ _ _ _ _ hr1]
      exact cells6_get hj
    have f0 := frozen_of_row w' (w.heap.size + 1) j _ _ hr1
    have hn := hAt_next (j := j) hh
    have hs1 := heap_setCell_same w' (w.heap.size + 1) j _ _ (.int .u64 ((hAt H j : Int) % (m : Int))) hr1
    rw [cells6_next'] at hs1
    have hs0 := (heap_setCell_other w' ⟨w.heap.size + 1, j, none⟩ w.heap.size (.int .u64 ((hAt H j : Int) % (m : Int))) (by simp)).trans hr0
    have hB2 := hB.setCell (p := ⟨w.heap.size + 1, j, none⟩) (by simp) (.int .u64 ((hAt H j : Int) % (m : Int)))
    obtain ⟨W2, hW2⟩ : ∃ W, W = w'.setCell ⟨w.heap.size + 1, j, none⟩ (.int .u64 ((hAt H j : Int) % (m : Int))) := ⟨_, rfl⟩
    rw [← hW2] at hs1 hs0 hB2
    have HW2 := hid hW2
    have HS1 := hid hs1
    have HS0 := hid hs0
    clear hW2 hs1 hs0 hr0 hr1
    by_cases hl : j + 1 < 6
    · go_wp2
      rw [← HW2.out]
      refine wp_goto_k (Jumped.mk (6 - (j + 1)) (by omega) ⟨j + 1, _, _, _, _, _, _, _, _, _, _, _, _, _, _, _, _, _, _, _, _, _, rfl, rfl, rfl, hl, rfl, hB2, HS0.out, HS1.out⟩)
    · have hj6 : j + 1 = 6 := by omega
      have HJ := hid hj6
      clear hj6
      go_wp2_with (first
        | (rw [← HW2.out]; refine wpList_load_row rfl 38 (.tmp 5) rfl (w.heap.size + 1) rfl 38 (cells6 H m (j + 1)) (0, 0) _ HS1.out Try.underlying38 rfl (by rw [cells6_size]; exact arr6) ?_)
        | (refine wpList_store_row rfl 38 (.tmp 4) (.tmp 27) rfl w.heap.size (cells6 H m (j + 1)) rfl rfl 38 (cells6 H m 0) HS0.out (by rw [cells6_size]; exact arr6) (by rw [cells6_size, cells6_size]) (cells6_one _ _ _) ?_))
      simp only [Exit.jump]
      refine bodyPost_ret (v := .agg (cells6 H m (j + 1))) (results_cell_row rfl _ _ w.heap.size 38 _ (0, 0) _ rfl (setRow_heap _ _ _ _ _ _ HS0.out) Try.underlying38 rfl (by rw [cells6_size]; exact arr6)) rfl ⟨by rw [HJ.out], below_setRow hB2 (Nat.le_refl _) _⟩
  · intro hpass
    go_wp2_with (go_at_call 10; (with_reducible refine (hash_any A n c xs _ ((h.alloc _).alloc _)).mono ?_); rintro e w' ⟨rfl, rfl⟩; rw [← HH.out])
    refine wp_label_k (by assumption) (hpass 6 _ _ ?_)
    refine ⟨0, _, _, _, _, _, _, _, _, _, _, _, _, _, _, _, _, _, _, _, _, _, rfl, ?_, ?_, by omega, rfl, ((Below.refl _ _).alloc (Nat.le_refl _) _).alloc (by simp) _, ?_, ?_⟩
    · rw [hAt_zero hh]
    · rw [stepN_int]
    · rw [cells6_zero]; exact heap_alloc2_old _ _ _
    · rw [cells6_zero]; exact heap_alloc2_new _ _ _
end Go.Proofs.Ytkcfnehfdmlhiaa
