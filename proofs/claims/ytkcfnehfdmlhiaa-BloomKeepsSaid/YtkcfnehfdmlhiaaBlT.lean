/- Layer 10: Build: the walks. -/
import Derived.Test.YtkcfnehfdmlhiaaBlS
import Derived.Laws.MakeOwn
namespace Go.Proofs.Ytkcfnehfdmlhiaa
open Go.RowKit
set_option linter.unusedVariables false
set_option linter.unusedSimpArgs false

def setBit (b : List UInt8) (p : Nat) : List UInt8 := b.set (p / 8) (UInt8.ofNat (bAt b (p / 8) ||| 2 ^ (p % 8)))
def addUpto (b : List UInt8) (M h : Nat) : Nat → List UInt8
  | 0 => b
  | j + 1 => setBit (addUpto b M h j) (place h M j)
def addKey (M : Nat) (b k : List UInt8) : List UInt8 := addUpto b M (hashN k) 6
def sizeF (n : Nat) : Nat := ((if 64 < 10 * n then 10 * n else 64) + 7) / 8
def fillUpto (xss : List (List UInt8)) (M S : Nat) : Nat → List UInt8
  | 0 => List.replicate S 0
  | k + 1 => addKey M (fillUpto xss M S k) (elt [] xss k)
def filterB (xss : List (List UInt8)) : List UInt8 := fillUpto xss (8 * sizeF xss.length) (sizeF xss.length) xss.length
theorem setBit_len (b : List UInt8) (p : Nat) : (setBit b p).length = b.length := by simp [setBit]
theorem addUpto_len (b : List UInt8) (M h : Nat) : ∀ j, (addUpto b M h j).length = b.length := by
  intro j
  induction j with
  | zero => rfl
  | succ j ih => rw [addUpto, setBit_len, ih]
theorem fillUpto_len (xss : List (List UInt8)) (M S : Nat) : ∀ k, (fillUpto xss M S k).length = S := by
  intro k
  induction k with
  | zero => simp [fillUpto]
  | succ k ih => rw [fillUpto, addKey, addUpto_len, ih]
theorem or_bit {x s : Nat} (hx : x < 256) (hs : s < 8) : bits .or .u8 (x : Int) (2 ^ s) = ((UInt8.ofNat (x ||| 2 ^ s)).toNat : Int) := by
  have hp : 2 ^ s < 256 := Nat.lt_of_le_of_lt (Nat.pow_le_pow_right (by omega) (show s ≤ 7 by omega)) (by decide)
  have h := u8_or_nat x (2 ^ s) hx hp
  rw [Int.natCast_pow] at h
  have hl : x ||| 2 ^ s < 256 := Nat.or_lt_two_pow (n := 8) hx hp
  rw [show ((2 : Nat) : Int) = 2 from rfl] at h
  rw [h, UInt8.toNat_ofNat', Nat.mod_eq_of_lt hl]
theorem or_bit' {x s : Nat} (hx : x < 256) (hs : s < 8) : bits .or .u8 (x : Int) (2 ^ s % 256) = ((UInt8.ofNat (x ||| 2 ^ s)).toNat : Int) := by
  have hp : 2 ^ s < 256 := Nat.lt_of_le_of_lt (Nat.pow_le_pow_right (by omega) (show s ≤ 7 by omega)) (by decide)
  have e : (2 : Int) ^ s % 256 = 2 ^ s := by
    have h1 : ((2 ^ s : Nat) : Int) = (2 : Int) ^ s := by rw [Int.natCast_pow]; rfl
    exact Int.emod_eq_of_lt (by rw [← h1]; exact Int.natCast_nonneg _) (by rw [← h1]; exact Int.ofNat_lt.2 hp)
  rw [e]
  exact or_bit hx hs
theorem OB.zeros (w : World) (base S : Nat) (hb : base ≤ w.heap.size) (hS : S ≤ 9223372036854775807) : OB (w.alloc (.cells (madeCells #[.int .u8 0] S) 5)) base (.slice (some ⟨w.heap.size, 0, none⟩) S S) (List.replicate S 0) := by
  have h := World.ownsRow_lit (base := base) (e := 5) (size := 1) w (madeCells #[.int .u8 0] S) S hb (by simp only [maxLen]; omega) (by rw [size_madeCells]; omega)
  have e : (madeCells #[.int .u8 0] S).toList = bys (List.replicate S 0) := by
    apply List.ext_getElem?
    intro i
    simp [madeCells, bys, List.getElem?_replicate]
    by_cases hi : i < S <;> simp [hi, Nat.mod_one]
  unfold OB
  rw [List.length_replicate, ← e]
  exact h
theorem OB.formN {w : World} {base : Nat} {v : Value} {xs : List UInt8} (h : OB w base v xs) (n : Nat) (hl : xs.length = n) (hn : 0 < n) : ∃ g cap, v = .slice (some ⟨g, 0, none⟩) n cap ∧ base ≤ g ∧ g < w.heap.size ∧ n ≤ cap := by
  subst hl
  exact h.form hn
set_option maxHeartbeats 8000000 in
theorem build_any (A : Option Addr) (n c : Nat) (xss : List (List UInt8)) (w : World) (h : RBs w A n xss) (hn : n ≤ 100000) :
    Calls Try.prog 16 #[.slice A n c] w fun e w' => ∃ v, e = .returned (.tuple #[v, .int .i64 0]) ∧ OB w' w.heap.size v (filterB xss) ∧ Below w.heap.size w w' := by
  have hl := h.1
  obtain ⟨S, hS⟩ : ∃ S, S = sizeF n := ⟨_, rfl⟩
  have hS8 : 8 ≤ S ∧ S ≤ 125001 := by rw [hS]; unfold sizeF; split <;> omega
  have hz : ¬ ((100000 : Int) < (n : Int)) := by omega
  have hF : filterB xss = fillUpto xss (8 * S) S n := by unfold filterB; rw [hl, ← hS]
  rw [hF]
  have hmk : ∀ u : World, (Instr.makeSlice 22 (.int .i64 (S : Int)) (.int .i64 (S : Int))).run Try.prog u = .ok (.slice (some ⟨u.heap.size, 0, none⟩) S S) (u.alloc (.cells (madeCells #[.int .u8 0] S) 5)) := fun u => by
    obtain ⟨i, hi, hz0, hz1, hz2⟩ := info_parts u8info
    have h := run_make (P := Try.prog) u 22 5 i (.int .u8 0) Try.underlying22 hi hz0 .i64 .i64 (S : Int) (S : Int) (by omega) (Int.le_refl _) (by rw [hz2]; omega) (by omega)
    simpa [hz1, Value.cells] using h
  have hSz : ∃ E : Int, E = (S : Int) ∧ ((10 * n ≤ 64 ∧ E = 8) ∨ (64 < 10 * n ∧ E = (10 * (n : Int) + 7) / 8)) := by
    refine ⟨(S : Int), rfl, ?_⟩
    rw [hS]
    unfold sizeF
    by_cases hb : 64 < 10 * n
    · rw [if_pos hb]; exact .inr ⟨hb, by omega⟩
    · rw [if_neg hb]; exact .inl ⟨by omega, by omega⟩
  obtain ⟨E, hE, hcase⟩ := hSz
  rw [← hE] at hmk
  obtain ⟨M, hM⟩ : ∃ M, M = 8 * S := ⟨_, rfl⟩
  rw [← hM]
  have hM0 : 0 < M := by omega
  have hM64 : M < 18446744073709551616 := by omega
  have hS64 := u64_in S (by omega)
  have hM64i : IntKind.u64.wrap ((S : Int) * 8) = (M : Int) := by rw [IntKind.wrap_u64]; omega
  have H := hid h
  have HM := hid hM
  clear hS hF hE h hl hM
  rcases hcase with ⟨hb, rfl⟩ | ⟨hb, rfl⟩
  all_goals
    have hb' : (64 : Int) < 10 * (n : Int) ↔ 64 < 10 * n := by omega
    go_enter Try.func16, Try.ntmps16
    go_wp2
    go_loopw [21] (fun i wr => ∃ k : Nat, k ≤ n ∧ i = .int .i64 k ∧ OB wr w.heap.size (.slice (some ⟨w.heap.size, 0, none⟩) S S) (fillUpto xss M S k) ∧ Below w.heap.size w wr) (fun i wr => n - (intOf i).toNat)
    case atStart => exact ⟨0, Nat.zero_le _, rfl, OB.zeros _ _ _ (Nat.le_refl _) (by omega), below_alloc' (Below.refl _ _) _⟩
    case round =>
      obtain ⟨k, hk, rfl, hown, hB⟩ := hrel
      by_cases hlt : k < n
      · obtain ⟨ad, rfl, Aj, nj, cj, hcell, hrb, hle⟩ := H.out.at_ hlt
        have hcell2 := below_cell hB hcell
        obtain ⟨h0, hh0⟩ : ∃ h, h = hashN (elt [] xss k) := ⟨_, rfl⟩
        have HH0 := hid hh0
        clear hh0 hcell
        go_wp2_with (go_at_call 18; (with_reducible refine (places_any Aj nj cj _ M _ (hrb.below hB) hM0 hM64).mono ?_); rintro e w1 ⟨rfl, hb1⟩; rw [← HH0.out])
        have hown1 := hown.below hb1
        have hB1 := below_then hB hb1
        clear hown hB hb1 hcell2
        go_loopw [31] (fun i wr2 => ∃ j : Nat, j ≤ 6 ∧ i = .int .i64 j ∧ OB wr2 w.heap.size (.slice (some ⟨w.heap.size, 0, none⟩) S S) (addUpto (fillUpto xss M S k) M h0 j) ∧ Below w.heap.size w wr2) (fun i wr2 => 6 - (intOf i).toNat)
        case atStart => exact ⟨0, by omega, rfl, hown1, hB1⟩
        case round =>
          clear hown1 hB1
          obtain ⟨j, hj, rfl, hown2, hB2⟩ := hrel
          by_cases hlt6 : j < 6
          · have hpl := place_lt (h := h0) j hM0
            have hix := run_index6 (h := h0) (m := M) hlt6 wr
            obtain ⟨P, hP⟩ : ∃ P, P = place h0 M j := ⟨_, rfl⟩
            rw [← hP] at hix hpl
            have HPP := hid hP
            clear hP
            have hP8 : P / 8 < S := by have := HM.out; omega
            have k0 := hown2.cell (j := P / 8) hP8
            have f0 := hown2.frozen (P / 8)
            have hor := or_bit' (bAt_lt (addUpto (fillUpto xss M S k) M h0 j) (P / 8)) (show P % 8 < 8 by omega)
            have HO := hid hor
            clear hor
            go_wp2
            go_roundw
            case rel => exact ⟨j + 1, by omega, by go_num, by rw [addUpto, ← HPP.out]; exact hown2.set (P / 8) _ HO.out, hB2.setCell (Nat.le_refl _) _⟩
            case measure => simp [intOf]; omega
          · obtain rfl : j = 6 := by omega
            go_wp2
            go_roundw
            case rel => exact ⟨k + 1, by omega, by go_num, by rw [HH0.out] at hown2; exact hown2, hB2⟩
            case measure => simp [intOf]; omega
      · obtain rfl : k = n := by omega
        go_wp2
        go_ret2
        exact ⟨_, rfl, hown, hB⟩
end Go.Proofs.Ytkcfnehfdmlhiaa
