/- What the functions of layer 2 answer: Fixed and Read. -/
import Derived.Test.YteediedhofapkaaVintQ
namespace Go.Proofs.Yteediedhofapkaa
open Go.RowKit
set_option linter.unusedVariables false
set_option linter.unusedSimpArgs false

/-! ## Plain -/
/-- The lowest s bytes, the highest first. -/
def fixedU (n : Nat) : Nat → List UInt8
  | 0 => []
  | s + 1 => UInt8.ofNat (n / 256 ^ s) :: fixedU n s
def fixB (n : Nat) (size : Int) : List UInt8 := if size < 1 ∨ 8 < size then [] else fixedU n size.toNat
def readU (l : List UInt8) : Nat := l.foldl (fun a x => a * 256 + x.toNat) 0
def readB (l : List UInt8) (size : Int) : Nat × Nat :=
  if size < 1 ∨ 8 < size then (0, 1) else if (l.length : Int) < size then (0, 5) else (readU (l.take size.toNat), 0)
theorem fixedU_len (n s : Nat) : (fixedU n s).length = s := by
  induction s with
  | zero => rfl
  | succ s ih => simp [fixedU, ih]
theorem fixB_len (n : Nat) (size : Int) : (fixB n size).length ≤ 8 := by
  unfold fixB
  split
  · simp
  · rw [fixedU_len]; omega
theorem readU_snoc (l : List UInt8) (x : UInt8) : readU (l ++ [x]) = readU l * 256 + x.toNat := by simp [readU, List.foldl_append]
theorem readU_lt : ∀ l : List UInt8, readU l < 256 ^ l.length := by
  intro l
  suffices h : ∀ (m : List UInt8), readU m.reverse < 256 ^ m.length by
    have := h l.reverse
    simpa using this
  intro m
  induction m with
  | nil => simp [readU]
  | cons x m ih =>
    rw [List.reverse_cons, readU_snoc, List.length_cons, Nat.pow_succ]
    have := x.toNat_lt
    omega
theorem readU_lt7 {l : List UInt8} (h : l.length ≤ 7) : readU l < 72057594037927936 := Nat.lt_of_lt_of_le (readU_lt l) (Nat.le_trans (Nat.pow_le_pow_right (by omega) h) (by decide))
theorem readU_lt8 {l : List UInt8} (h : l.length ≤ 8) : readU l < 18446744073709551616 := Nat.lt_of_lt_of_le (readU_lt l) (Nat.le_trans (Nat.pow_le_pow_right (by omega) h) (by decide))
theorem readB_lt (l : List UInt8) (size : Int) : (readB l size).1 < 18446744073709551616 ∧ (readB l size).2 ≤ 5 := by
  unfold readB
  split
  · simp
  · split
    · simp
    · exact ⟨readU_lt8 (by simp; omega), by simp⟩
theorem or_shl8 {v x : Nat} (hv : v < 72057594037927936) (hx : x < 256) : bits .or .u64 ((v : Int) * 256) (x : Int) = ((v * 256 + x : Nat) : Int) := by
  have h := u64_or_nat (v * 256) x (by omega) (by omega)
  have e : v * 256 ||| x = v * 256 + x := by
    have := Nat.two_pow_add_eq_or_of_lt (i := 8) (b := x) hx v
    rw [Nat.mul_comm]
    exact this.symm
  rw [e] at h
  rw [show (v : Int) * 256 = ((v * 256 : Nat) : Int) from by omega, h]

/-! ## Read -/
theorem tup2 {k1 k2 : IntKind} {a b a' b' : Int} (h1 : a = a') (h2 : b = b') : Ending.returned (.tuple #[.int k1 a, .int k2 b]) = .returned (.tuple #[.int k1 a', .int k2 b']) := by rw [h1, h2]
set_option maxHeartbeats 4000000 in
set_option maxRecDepth 100000 in
theorem read_any (A : Option Addr) (n c : Nat) (xs : List UInt8) (size : Int) (w : World) (h : RB w A n xs) (hc : n ≤ c) (hm : -9223372036854775808 ≤ size ∧ size ≤ 9223372036854775807) :
    Calls Try.prog 26 #[.slice A n c, .int .i64 size] w fun e w' => e = .returned (.tuple #[.int .u64 ((readB xs size).1 : Nat), .int .i64 ((readB xs size).2 : Nat)]) ∧ w = w' := by
  have hl := h.1
  have hmx := h.max
  have HL := hid hl
  clear hl
  obtain ⟨m1, m2⟩ := hm
  by_cases h1 : size < 1
  · have HR : Hid (readB xs size = (0, 1)) := by unfold Hid readB; rw [if_pos (.inl h1)]
    go_enter Try.func26, Try.ntmps26
    go_wp2
    go_ret2
    rw [HR.out]
    exact ⟨rfl, rfl⟩
  · by_cases h8 : 8 < size
    · have HR : Hid (readB xs size = (0, 1)) := by unfold Hid readB; rw [if_pos (.inr h8)]
      go_enter Try.func26, Try.ntmps26
      go_wp2
      go_ret2
      rw [HR.out]
      exact ⟨rfl, rfl⟩
    · obtain ⟨s, rfl⟩ := Int.eq_ofNat_of_zero_le (show 0 ≤ size by omega)
      by_cases hs : n < s
      · have HR : Hid (readB xs s = (0, 5)) := by unfold Hid readB; rw [if_neg (by omega), if_pos (by rw [HL.out]; omega)]
        go_enter Try.func26, Try.ntmps26
        go_wp2
        go_ret2
        rw [HR.out]
        exact ⟨rfl, rfl⟩
      · obtain ⟨ys, hys⟩ : ∃ ys, ys = xs.take s := ⟨_, rfl⟩
        have HR : Hid (readB xs s = (readU ys, 0)) := by
          unfold Hid readB
          rw [if_neg (by omega), if_neg (by rw [HL.out]; omega), hys]
          rfl
        have hyl : Hid (ys.length = s) := by unfold Hid; rw [hys, List.length_take, HL.out]; omega
        obtain ⟨c2, hsl, hrs, hc2⟩ := cutB_hi (A := A) (n := n) (c := c) hc (hi := s) (by omega) (s : Int) rfl
        have hr := hrs w xs h
        rw [← hys] at hr
        clear hrs hys
        have hs8 : s ≤ 8 := by omega
        go_enter Try.func26, Try.ntmps26
        go_wp2
        go_loop [6, 25] (fun v i => ∃ k : Nat, k ≤ s ∧ i = .int .i64 k ∧ v = .int .u64 (readU (ys.take k) : Nat)) (fun _ i => s - (intOf i).toNat)
        case atStart => exact ⟨0, Nat.zero_le _, rfl, rfl⟩
        case round =>
          obtain ⟨k, hk, rfl, rfl⟩ := hrel
          by_cases hlt : k < s
          · obtain ⟨ad, rfl, hcell⟩ := hr.at_ hlt
            have hb := bAt_lt ys k
            have hr7 : readU (ys.take k) < 72057594037927936 := readU_lt7 (by rw [List.length_take, hyl.out]; omega)
            have eo := or_shl8 hr7 hb
            have HS : Hid (readU (ys.take k) * 256 + bAt ys k = readU (ys.take (k + 1))) := by
              unfold Hid
              rw [take_succ_elt 0 (by rw [hyl.out]; exact hlt), readU_snoc]
              rfl
            go_wp2
            go_round
            case rel => exact ⟨k + 1, by omega, by go_num, by have := HS.out; go_num⟩
            case measure => simp [intOf]; omega
          · go_wp2
            go_ret2
            rw [HR.out]
            refine ⟨tup2 ?_ rfl, rfl⟩
            dsimp only
            rw [List.take_of_length_le (by rw [hyl.out]; omega)]
end Go.Proofs.Yteediedhofapkaa
