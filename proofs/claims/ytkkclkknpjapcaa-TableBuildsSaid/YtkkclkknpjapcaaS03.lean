/- Shared texts, part S03: VintF, VintG, VintZ, EnB, R, RF. -/
import Derived.Laws.ResultCell
import Derived.Orders
import Derived.RegionTactic
import Derived.Test.YtkkclkknpjapcaaS02
import Derived.Test.YtkkclkknpjapcaaS01
/-! ### VintF -/
namespace Go.Proofs.Ytkkclkknpjapcaa
open Go.RowKit
set_option linter.unusedVariables false
set_option linter.unusedSimpArgs false

/-! ## Plain -/
/-- The lowest s bytes, the highest first. -/
def fixedU (n : Nat) : Nat → List UInt8
  | 0 => []
  | s + 1 => UInt8.ofNat (n / 256 ^ s) :: fixedU n s
def fixB (n : Nat) (size : Int) : List UInt8 := if size < 1 ∨ 8 < size then [] else fixedU n size.toNat
def readU (l : List UInt8) : Nat := l.foldl (fun a x => a * 256 + x.toNat) 0
def readB (l : List UInt8) (size : Int) : Nat × Nat :=
  if size < 1 ∨ 8 < size then (0, 1) else if (l.length : Int) < size then (0, 5) else (readU (l.take size.toNat), 0)
theorem fixedU_len (n s : Nat) : (fixedU n s).length = s := by
  induction s with
  | zero => rfl
  | succ s ih => simp [fixedU, ih]
theorem fixB_len (n : Nat) (size : Int) : (fixB n size).length ≤ 8 := by
  unfold fixB
  split
  · simp
  · rw [fixedU_len]; omega
theorem readU_snoc (l : List UInt8) (x : UInt8) : readU (l ++ [x]) = readU l * 256 + x.toNat := by simp [readU, List.foldl_append]
theorem readU_lt : ∀ l : List UInt8, readU l < 256 ^ l.length := by
  intro l
  suffices h : ∀ (m : List UInt8), readU m.reverse < 256 ^ m.length by
    have := h l.reverse
    simpa using this
  intro m
  induction m with
  | nil => simp [readU]
  | cons x m ih =>
    rw [List.reverse_cons, readU_snoc, List.length_cons, Nat.pow_succ]
    have := x.toNat_lt
    omega
theorem readU_lt7 {l : List UInt8} (h : l.length ≤ 7) : readU l < 72057594037927936 := Nat.lt_of_lt_of_le (readU_lt l) (Nat.le_trans (Nat.pow_le_pow_right (by omega) h) (by decide))
theorem readU_lt8 {l : List UInt8} (h : l.length ≤ 8) : readU l < 18446744073709551616 := Nat.lt_of_lt_of_le (readU_lt l) (Nat.le_trans (Nat.pow_le_pow_right (by omega) h) (by decide))
theorem readB_lt (l : List UInt8) (size : Int) : (readB l size).1 < 18446744073709551616 ∧ (readB l size).2 ≤ 5 := by
  unfold readB
  split
  · simp
  · split
    · simp
    · exact ⟨readU_lt8 (by simp; omega), by simp⟩
theorem or_shl8 {v x : Nat} (hv : v < 72057594037927936) (hx : x < 256) : bits .or .u64 ((v : Int) * 256) (x : Int) = ((v * 256 + x : Nat) : Int) := by
  have h := u64_or_nat (v * 256) x (by omega) (by omega)
  have e : v * 256 ||| x = v * 256 + x := by
    have := Nat.two_pow_add_eq_or_of_lt (i := 8) (b := x) hx v
    rw [Nat.mul_comm]
    exact this.symm
  rw [e] at h
  rw [show (v : Int) * 256 = ((v * 256 : Nat) : Int) from by omega, h]

/-! ## Read -/
theorem tup2 {k1 k2 : IntKind} {a b a' b' : Int} (h1 : a = a') (h2 : b = b') : Ending.returned (.tuple #[.int k1 a, .int k2 b]) = .returned (.tuple #[.int k1 a', .int k2 b']) := by rw [h1, h2]
set_option maxHeartbeats 4000000 in
set_option maxRecDepth 100000 in
theorem read_any (A : Option Addr) (n c : Nat) (xs : List UInt8) (size : Int) (w : World) (h : RB w A n xs) (hc : n ≤ c) (hm : -9223372036854775808 ≤ size ∧ size ≤ 9223372036854775807) :
    Calls Try.prog 50 #[.slice A n c, .int .i64 size] w fun e w' => e = .returned (.tuple #[.int .u64 ((readB xs size).1 : Nat), .int .i64 ((readB xs size).2 : Nat)]) ∧ w = w' := by
  have hl := h.1
  have hmx := h.max
  have HL := hid hl
  clear hl
  obtain ⟨m1, m2⟩ := hm
  by_cases h1 : size < 1
  · have HR : Hid (readB xs size = (0, 1)) := by unfold Hid readB; rw [if_pos (.inl h1)]
    go_enter Try.func50, Try.ntmps50
    go_wp2
    go_ret2
    rw [HR.out]
    exact ⟨rfl, rfl⟩
  · by_cases h8 : 8 < size
    · have HR : Hid (readB xs size = (0, 1)) := by unfold Hid readB; rw [if_pos (.inr h8)]
      go_enter Try.func50, Try.ntmps50
      go_wp2
      go_ret2
      rw [HR.out]
      exact ⟨rfl, rfl⟩
    · obtain ⟨s, rfl⟩ := Int.eq_ofNat_of_zero_le (show 0 ≤ size by omega)
      by_cases hs : n < s
      · have HR : Hid (readB xs s = (0, 5)) := by unfold Hid readB; rw [if_neg (by omega), if_pos (by rw [HL.out]; omega)]
        go_enter Try.func50, Try.ntmps50
        go_wp2
        go_ret2
        rw [HR.out]
        exact ⟨rfl, rfl⟩
      · obtain ⟨ys, hys⟩ : ∃ ys, ys = xs.take s := ⟨_, rfl⟩
        have HR : Hid (readB xs s = (readU ys, 0)) := by
          unfold Hid readB
          rw [if_neg (by omega), if_neg (by rw [HL.out]; omega), hys]
          rfl
        have hyl : Hid (ys.length = s) := by unfold Hid; rw [hys, List.length_take, HL.out]; omega
        obtain ⟨c2, hsl, hrs, hc2⟩ := cutB_hi (A := A) (n := n) (c := c) hc (hi := s) (by omega) (s : Int) rfl
        have hr := hrs w xs h
        rw [← hys] at hr
        clear hrs hys
        have hs8 : s ≤ 8 := by omega
        go_enter Try.func50, Try.ntmps50
        go_wp2
        go_loop [6, 25] (fun v i => ∃ k : Nat, k ≤ s ∧ i = .int .i64 k ∧ v = .int .u64 (readU (ys.take k) : Nat)) (fun _ i => s - (intOf i).toNat)
        case atStart => exact ⟨0, Nat.zero_le _, rfl, rfl⟩
        case round =>
          obtain ⟨k, hk, rfl, rfl⟩ := hrel
          by_cases hlt : k < s
          · obtain ⟨ad, rfl, hcell⟩ := hr.at_ hlt
            have hb := bAt_lt ys k
            have hr7 : readU (ys.take k) < 72057594037927936 := readU_lt7 (by rw [List.length_take, hyl.out]; omega)
            have eo := or_shl8 hr7 hb
            have HS : Hid (readU (ys.take k) * 256 + bAt ys k = readU (ys.take (k + 1))) := by
              unfold Hid
              rw [take_succ_elt 0 (by rw [hyl.out]; exact hlt), readU_snoc]
              rfl
            go_wp2
            go_round
            case rel => exact ⟨k + 1, by omega, by go_num, by have := HS.out; go_num⟩
            case measure => simp [intOf]; omega
          · go_wp2
            go_ret2
            rw [HR.out]
            refine ⟨tup2 ?_ rfl, rfl⟩
            dsimp only
            rw [List.take_of_length_le (by rw [hyl.out]; omega)]
end Go.Proofs.Ytkkclkknpjapcaa
/-! ### VintG -/
namespace Go.Proofs.Ytkkclkknpjapcaa
open Go.RowKit
set_option linter.unusedVariables false
set_option linter.unusedSimpArgs false

set_option maxHeartbeats 4000000 in
set_option maxRecDepth 100000 in
theorem refread_any (A : Option Addr) (n c : Nat) (xs : List UInt8) (size : Int) (w : World) (h : RB w A n xs) (hc : n ≤ c) (hm : -9223372036854775808 ≤ size ∧ size ≤ 9223372036854775807) :
    Calls Try.prog 55 #[.slice A n c, .int .i64 size] w fun e w' => e = .returned (.tuple #[.int .u64 ((readB xs size).1 : Nat), .int .i64 ((readB xs size).2 : Nat)]) ∧ w = w' := by
  have hl := h.1
  have hmx := h.max
  have HL := hid hl
  clear hl
  obtain ⟨m1, m2⟩ := hm
  by_cases h1 : size < 1
  · have HR : Hid (readB xs size = (0, 1)) := by unfold Hid readB; rw [if_pos (.inl h1)]
    go_enter Try.func55, Try.ntmps55
    go_wp2
    go_ret2
    rw [HR.out]
    exact ⟨rfl, rfl⟩
  · by_cases h8 : 8 < size
    · have HR : Hid (readB xs size = (0, 1)) := by unfold Hid readB; rw [if_pos (.inr h8)]
      go_enter Try.func55, Try.ntmps55
      go_wp2
      go_ret2
      rw [HR.out]
      exact ⟨rfl, rfl⟩
    · obtain ⟨s, rfl⟩ := Int.eq_ofNat_of_zero_le (show 0 ≤ size by omega)
      by_cases hs : n < s
      · have HR : Hid (readB xs s = (0, 5)) := by unfold Hid readB; rw [if_neg (by omega), if_pos (by rw [HL.out]; omega)]
        go_enter Try.func55, Try.ntmps55
        go_wp2
        go_ret2
        rw [HR.out]
        exact ⟨rfl, rfl⟩
      · obtain ⟨ys, hys⟩ : ∃ ys, ys = xs.take s := ⟨_, rfl⟩
        have HR : Hid (readB xs s = (readU ys, 0)) := by
          unfold Hid readB
          rw [if_neg (by omega), if_neg (by rw [HL.out]; omega), hys]
          rfl
        have hyl : Hid (ys.length = s) := by unfold Hid; rw [hys, List.length_take, HL.out]; omega
        obtain ⟨c2, hsl, hrs, hc2⟩ := cutB_hi (A := A) (n := n) (c := c) hc (hi := s) (by omega) (s : Int) rfl
        have hr := hrs w xs h
        rw [← hys] at hr
        clear hrs hys
        have hs8 : s ≤ 8 := by omega
        go_enter Try.func55, Try.ntmps55
        go_wp2
        go_loop [6, 23] (fun v i => ∃ k : Nat, k ≤ s ∧ i = .int .i64 k ∧ v = .int .u64 (readU (ys.take k) : Nat)) (fun _ i => s - (intOf i).toNat)
        case atStart => exact ⟨0, Nat.zero_le _, rfl, rfl⟩
        case round =>
          obtain ⟨k, hk, rfl, rfl⟩ := hrel
          by_cases hlt : k < s
          · obtain ⟨ad, rfl, hcell⟩ := hr.at_ hlt
            have hb := bAt_lt ys k
            have hr7 : readU (ys.take k) < 72057594037927936 := readU_lt7 (by rw [List.length_take, hyl.out]; omega)
            have eo := or_shl8 hr7 hb
            have HS : Hid (readU (ys.take k) * 256 + bAt ys k = readU (ys.take (k + 1))) := by
              unfold Hid
              rw [take_succ_elt 0 (by rw [hyl.out]; exact hlt), readU_snoc]
              rfl
            go_wp2
            go_round
            case rel => exact ⟨k + 1, by omega, by go_num, by have := HS.out; go_num⟩
            case measure => simp [intOf]; omega
          · go_wp2
            go_ret2
            rw [HR.out]
            refine ⟨tup2 ?_ rfl, rfl⟩
            dsimp only
            rw [List.take_of_length_le (by rw [hyl.out]; omega)]

theorem shr_byte (g i : Nat) : ((g : Int) / 2 ^ (8 * i)) % 256 = ((UInt8.ofNat (g / 256 ^ i)).toNat : Int) := by
  have e : (2 : Int) ^ (8 * i) = ((256 ^ i : Nat) : Int) := by
    rw [Int.pow_mul, Int.natCast_pow]
    rfl
  rw [UInt8.toNat_ofNat', e, ← Int.natCast_ediv]
  omega
set_option maxHeartbeats 4000000 in
set_option maxRecDepth 100000 in
theorem fixed_any (A : Option Addr) (n c : Nat) (xs : List UInt8) (g : Nat) (size : Int) (w : World) (h : RB w A n xs) (hg : g < 18446744073709551616) (hm : -9223372036854775808 ≤ size ∧ size ≤ 9223372036854775807) (hsz : n + 10 ≤ 140737488355328) :
    Calls Try.prog 40 #[.slice A n c, .int .u64 (g : Int), .int .i64 size] w fun e w' => ∃ v, e = .returned v ∧ OB w' w.heap.size v (xs ++ fixB g size) ∧ Below w.heap.size w w' := by
  have hl := h.1
  have HL := hid hl
  clear hl
  obtain ⟨m1, m2⟩ := hm
  by_cases hbad : size < 1 ∨ 8 < size
  · have HR : Hid (xs ++ fixB g size = xs) := by unfold Hid fixB; rw [if_pos hbad]; simp
    have hb2 : ¬ size < 1 → 8 < size := by omega
    by_cases h1 : size < 1
    all_goals
      try have h8 := hb2 h1
      clear hbad hb2
      go_enter Try.func40, Try.ntmps40
      go_wp2_with (at_builtin; refine wpB_append w w w.heap.size rfl (.const (.slice none 0 0)) (.tmp 9) rfl _ [] rfl (OB.nil _ _) A n c xs rfl h (by rw [HL.out]; simp; omega) (Below.refl _ _) (Nat.le_refl _) ?_; intro v1 w1 hown1 hB1 _ _)
      go_ret
      exact ⟨v1, rfl, by rw [HR.out]; exact hown1, hB1⟩
  · obtain ⟨s, rfl⟩ := Int.eq_ofNat_of_zero_le (show 0 ≤ size by omega)
    have HR : Hid (xs ++ fixB g s = xs ++ fixedU g s) := by unfold Hid fixB; rw [if_neg hbad]; rfl
    go_enter Try.func40, Try.ntmps40
    go_wp2_with (at_builtin; refine wpB_append w w w.heap.size rfl (.const (.slice none 0 0)) (.tmp 9) rfl _ [] rfl (OB.nil _ _) A n c xs rfl h (by rw [HL.out]; simp; omega) (Below.refl _ _) (Nat.le_refl _) ?_; intro v1 w1 hown1 hB1 _ _)
    go_loopw [7, 8] (fun v i wr => ∃ (j : Nat) (out : List UInt8), j ≤ s ∧ i = .int .i64 ((j : Int) - 1) ∧ OB wr w.heap.size v out ∧ out ++ fixedU g j = xs ++ fixedU g s ∧ Below w.heap.size w wr ∧ out.length + j = n + s) (fun _ i _ => (intOf i + 1).toNat)
    case atStart => exact ⟨s, xs, Nat.le_refl _, by go_num, hown1, rfl, hB1, by rw [HL.out]⟩
    case round =>
      obtain ⟨j, out, hj, rfl, hown, he, hB, hlen⟩ := hrel
      have HE := hid he
      clear he
      cases j with
      | zero =>
        go_wp2
        go_ret
        refine ⟨_, rfl, ?_, hB⟩
        rw [HR.out, ← HE.out]
        simpa [fixedU] using hown
      | succ j =>
        go_wp2_with (at_builtin; refine wpB_append1 w wr w.heap.size rfl (.tmp 24) (.tmp 30) rfl u7 out rfl hown (UInt8.ofNat (g / 256 ^ j)) _ (by exact shr_byte g j) 1 rfl (by omega) hB hB.size ?_; intro v2 w2 hown2 hB2 _ _)
        go_roundw
        case rel => exact ⟨j, _, by omega, by go_num, hown2, by rw [← HE.out]; simp [fixedU], hB2, by simp; omega⟩
        case measure => simp [intOf]
set_option maxHeartbeats 4000000 in
set_option maxRecDepth 100000 in
theorem reffixed_any (v0 : Value) (base : Nat) (xs : List UInt8) (g : Nat) (size : Int) (w : World) (h : OB w base v0 xs) (hb : base ≤ w.heap.size) (hg : g < 18446744073709551616) (hm : -9223372036854775808 ≤ size ∧ size ≤ 9223372036854775807) (hsz : xs.length + 10 ≤ 140737488355328) :
    Calls Try.prog 47 #[v0, .int .u64 (g : Int), .int .i64 size] w fun e w' => ∃ v, e = .returned v ∧ OB w' base v (xs ++ fixB g size) ∧ w.grownBy w' v0.ownBlock ∧ AtRow w.heap.size v0 v := by
  obtain ⟨m1, m2⟩ := hm
  by_cases hbad : size < 1 ∨ 8 < size
  · have HR : Hid (xs ++ fixB g size = xs) := by unfold Hid fixB; rw [if_pos hbad]; simp
    have hb2 : ¬ size < 1 → 8 < size := by omega
    by_cases h1 : size < 1
    all_goals
      try have h8 := hb2 h1
      clear hbad hb2
      go_enter Try.func47, Try.ntmps47
      go_wp2
      go_ret
      exact ⟨_, rfl, by rw [HR.out]; exact h, grown_refl _ _, .inl rfl⟩
  · obtain ⟨s, rfl⟩ := Int.eq_ofNat_of_zero_le (show 0 ≤ size by omega)
    have HR : Hid (xs ++ fixB g s = xs ++ fixedU g s) := by unfold Hid fixB; rw [if_neg hbad]; rfl
    go_enter Try.func47, Try.ntmps47
    go_wp2
    go_loopw [0, 7] (fun v i wr => ∃ (j : Nat) (out : List UInt8), j ≤ s ∧ i = .int .i64 ((j : Int) - 1) ∧ OB wr base v out ∧ out ++ fixedU g j = xs ++ fixedU g s ∧ w.grownBy wr v0.ownBlock ∧ AtRow w.heap.size v0 v ∧ out.length + j = xs.length + s) (fun _ i _ => (intOf i + 1).toNat)
    case atStart => exact ⟨s, xs, Nat.le_refl _, by go_num, h, rfl, grown_refl _ _, .inl rfl, rfl⟩
    case round =>
      obtain ⟨j, out, hj, rfl, hown, he, hgr, hat, hlen⟩ := hrel
      have HE := hid he
      have hbw : base ≤ wr.heap.size := Nat.le_trans hb hgr.size
      clear he
      cases j with
      | zero =>
        go_wp2
        go_ret
        refine ⟨_, rfl, ?_, hgr, hat⟩
        rw [HR.out, ← HE.out]
        simpa [fixedU] using hown
      | succ j =>
        go_wp2_with (at_builtin; refine wpB_append1 wr wr base rfl (.tmp 21) (.tmp 28) rfl u0 out rfl hown (UInt8.ofNat (g / 256 ^ j)) _ (by exact shr_byte g j) 1 rfl (by omega) (Below.refl _ _) hbw ?_; intro v2 w2 hown2 _ hg2 hat2)
        go_roundw
        case rel => exact ⟨j, _, by omega, by go_num, hown2, by rw [← HE.out]; simp [fixedU], grown_step hgr hat hg2, hat.trans hat2 hgr.size, by simp; omega⟩
        case measure => simp [intOf]
end Go.Proofs.Ytkkclkknpjapcaa
/-! ### VintZ -/
namespace Go.Proofs.Ytkkclkknpjapcaa
open Go.RowKit
set_option linter.unusedVariables false
set_option linter.unusedSimpArgs false

theorem bAt_0 (x : UInt8) (l : List UInt8) : bAt (x :: l) 0 = x.toNat := rfl
theorem bAt_s (x : UInt8) (l : List UInt8) (k : Nat) : bAt (x :: l) (k + 1) = bAt l k := rfl
theorem toNat_low (m : Nat) : (UInt8.ofNat (m % 128 + 128)).toNat = m % 128 + 128 := by rw [UInt8.toNat_ofNat']; omega
theorem toNat_small {m : Nat} (h : m < 256) : (UInt8.ofNat m).toNat = m := by rw [UInt8.toNat_ofNat']; omega
theorem pow128_zero {n : Nat} (h : n < 128 ^ 0) : n = 0 := by simpa using h
theorem pow128_div {n f : Nat} (h : n < 128 ^ (f + 1)) : n / 128 < 128 ^ f := by
  rw [Nat.pow_succ] at h
  exact Nat.div_lt_of_lt_mul (by rw [Nat.mul_comm]; exact h)
theorem pow128_pos {n f : Nat} (h : n < 128 ^ (f + 1)) (hn : ¬ n < 128) : 1 ≤ f := by
  cases f with
  | zero => simp at h; omega
  | succ f => omega
theorem uvarF_lead : ∀ (f n : Nat) (r : List UInt8), 1 ≤ f → n < 128 ^ f → leadU (uvarF f n ++ r) + 1 = (uvarF f n).length := by
  intro f
  induction f with
  | zero => intro n r h; omega
  | succ f ih =>
    intro n r _ hn
    by_cases hs : n < 128
    · rw [uvarF_small hs]
      have : ¬ 128 ≤ (UInt8.ofNat n).toNat := by rw [toNat_small (by omega)]; omega
      show (if 128 ≤ (UInt8.ofNat n).toNat then leadU r + 1 else 0) + 1 = 1
      rw [if_neg this]
    · rw [uvarF_big hs]
      have h1 : 128 ≤ (UInt8.ofNat (n % 128 + 128)).toNat := by rw [toNat_low]; omega
      have h2 := ih (n / 128) r (pow128_pos hn hs) (pow128_div hn)
      simp only [List.cons_append, leadU, if_pos h1, List.length_cons]
      omega
theorem uvarF_val : ∀ (f n : Nat), n < 128 ^ f → valU (uvarF f n) = n := by
  intro f
  induction f with
  | zero => intro n h; rw [pow128_zero h]; rfl
  | succ f ih =>
    intro n hn
    by_cases hs : n < 128
    · rw [uvarF_small hs]
      simp only [valU, toNat_small (show n < 256 by omega)]
      omega
    · rw [uvarF_big hs]
      simp only [valU, toNat_low, ih (n / 128) (pow128_div hn)]
      omega
theorem uvarF_last_byte : ∀ (f n : Nat) (r : List UInt8), 1 ≤ f → n < 128 ^ f → bAt (uvarF f n ++ r) ((uvarF f n).length - 1) = n / 128 ^ ((uvarF f n).length - 1) ∧ 128 ^ ((uvarF f n).length - 1) ≤ max n 1 := by
  intro f
  induction f with
  | zero => intro n r h; omega
  | succ f ih =>
    intro n r _ hn
    by_cases hs : n < 128
    · rw [uvarF_small hs]
      simp only [List.length_singleton, Nat.sub_self, List.singleton_append, bAt_0, toNat_small (show n < 256 by omega)]
      simp; omega
    · rw [uvarF_big hs]
      obtain ⟨h1, h2⟩ := ih (n / 128) r (pow128_pos hn hs) (pow128_div hn)
      have hp := uvarF_pos (f := f) (n := n / 128) (pow128_pos hn hs)
      obtain ⟨l, hl⟩ : ∃ l, (uvarF f (n / 128)).length = l + 1 := ⟨(uvarF f (n / 128)).length - 1, by omega⟩
      rw [hl, Nat.add_sub_cancel] at h1 h2
      simp only [List.length_cons, hl, Nat.add_sub_cancel, List.cons_append, bAt_s, h1]
      refine ⟨by rw [Nat.pow_succ, Nat.div_div_eq_div_mul, Nat.mul_comm], ?_⟩
      rw [Nat.pow_succ]
      have : max (n / 128) 1 = n / 128 := by omega
      rw [this] at h2
      omega
theorem uvar_pos (g : Nat) : 0 < (uvar g).length := uvarF_pos (by omega)
theorem lt_pow10 {g : Nat} (h : g < 18446744073709551616) : g < 128 ^ 10 := Nat.lt_of_lt_of_le h pow128_10
theorem takeU_uvar {g : Nat} (hg : g < 18446744073709551616) (r : List UInt8) : takeU (uvar g ++ r) = (g, (uvar g).length, 0) := by
  have h1 : leadU (uvar g ++ r) + 1 = (uvar g).length := uvarF_lead 10 g r (by omega) (lt_pow10 hg)
  have h2 := uvar_len g
  obtain ⟨h3, h4⟩ : bAt (uvar g ++ r) ((uvar g).length - 1) = g / 128 ^ ((uvar g).length - 1) ∧ 128 ^ ((uvar g).length - 1) ≤ max g 1 := uvarF_last_byte 10 g r (by omega) (lt_pow10 hg)
  rw [show (uvar g).length - 1 = leadU (uvar g ++ r) from by omega] at h3 h4
  unfold takeU
  rw [if_neg (by rw [List.length_append]; omega), if_neg, h1]
  · rw [List.take_left' rfl]
    show (valU (uvarF 10 g), _, _) = _
    rw [uvarF_val 10 g (lt_pow10 hg)]
  · rintro (h | ⟨h, hb⟩ | ⟨h, hb⟩)
    · omega
    · rw [h3, h] at hb
      have e : (128 : Nat) ^ 9 = 9223372036854775808 := by decide
      rw [e] at hb
      omega
    · rw [h3] at hb
      have hp : 128 ≤ 128 ^ leadU (uvar g ++ r) := by
        have := pow128_le (show 1 ≤ leadU (uvar g ++ r) from h)
        simpa using this
      have : 128 ^ leadU (uvar g ++ r) ≤ g := by omega
      have := Nat.div_pos this (by omega)
      omega
theorem leadU_take : ∀ (l : List UInt8) (i : Nat), i ≤ leadU l → leadU (l.take i) = i := by
  intro l
  induction l with
  | nil => intro i h; simp [leadU] at h; subst h; rfl
  | cons x l ih =>
    intro i h
    cases i with
    | zero => rfl
    | succ i =>
      unfold leadU at h
      split at h
      · rename_i hx
        simp only [List.take_succ_cons, leadU, if_pos hx]
        rw [ih i (by omega)]
      · omega
theorem takeU_cut {g i : Nat} (hg : g < 18446744073709551616) (hi : i < (uvar g).length) : takeU ((uvar g).take i) = (0, 0, 5) := by
  have h1 : leadU (uvar g ++ []) + 1 = (uvar g).length := uvarF_lead 10 g [] (by omega) (lt_pow10 hg)
  rw [List.append_nil] at h1
  unfold takeU
  rw [leadU_take _ _ (by omega), if_pos (by simp; omega)]
theorem readU_from : ∀ (l : List UInt8) (a : Nat), l.foldl (fun a x => a * 256 + x.toNat) a = a * 256 ^ l.length + readU l := by
  intro l
  induction l with
  | nil => intro a; simp [readU]
  | cons x l ih =>
    intro a
    unfold readU
    rw [List.foldl_cons, List.foldl_cons, ih, ih (0 * 256 + x.toNat), List.length_cons, Nat.pow_succ, Nat.add_mul, Nat.zero_mul, Nat.zero_add, ← Nat.add_assoc, Nat.mul_assoc, Nat.mul_comm 256]
theorem readU_cons (x : UInt8) (l : List UInt8) : readU (x :: l) = x.toNat * 256 ^ l.length + readU l := by
  have := readU_from l (0 * 256 + x.toNat)
  rw [Nat.zero_mul, Nat.zero_add] at this
  unfold readU at *
  rw [List.foldl_cons, Nat.zero_mul, Nat.zero_add]
  exact this
theorem fixed_read : ∀ (s n : Nat), readU (fixedU n s) = n % 256 ^ s := by
  intro s
  induction s with
  | zero => intro n; simp [fixedU, readU, Nat.mod_one]
  | succ s ih =>
    intro n
    rw [fixedU, readU_cons, fixedU_len, ih, UInt8.toNat_ofNat', show (2 : Nat) ^ 8 = 256 from rfl, Nat.pow_succ, Nat.mod_mul (a := 256 ^ s), Nat.mul_comm (256 ^ s)]
    omega
end Go.Proofs.Ytkkclkknpjapcaa
/-! ### EnB -/
namespace Go.Proofs.Ytkkclkknpjapcaa
open Go.RowKit
set_option linter.unusedVariables false
set_option linter.unusedSimpArgs false

theorem entry5 : (Try.prog.info? 42).map (·.size) = some 5 := by kernel_rfl
theorem set5 {wr : World} {b : Nat} {a0 a1 a2 a3 a4 : Value} {T : TypeId} (c0 c1 c2 c3 c4 : Value) (h : wr.heap[b]? = some (.cells #[a0, a1, a2, a3, a4] T (0, 0))) : (((((wr.setCell ⟨b, 0, none⟩ c0).setCell ⟨b, 1, none⟩ c1).setCell ⟨b, 2, none⟩ c2).setCell ⟨b, 3, none⟩ c3).setCell ⟨b, 4, none⟩ c4).heap[b]? = some (.cells #[c0, c1, c2, c3, c4] T (0, 0)) := by
  have h1 := heap_setCell_same wr b 0 _ _ c0 h
  have h2 := heap_setCell_same _ b 1 _ _ c1 h1
  have h3 := heap_setCell_same _ b 2 _ _ c2 h2
  have h4 := heap_setCell_same _ b 3 _ _ c3 h3
  have h5 := heap_setCell_same _ b 4 _ _ c4 h4
  exact h5
theorem grown_set5 (wr : World) (b : Nat) (c0 c1 c2 c3 c4 : Value) : wr.grownBy (((((wr.setCell ⟨b, 0, none⟩ c0).setCell ⟨b, 1, none⟩ c1).setCell ⟨b, 2, none⟩ c2).setCell ⟨b, 3, none⟩ c3).setCell ⟨b, 4, none⟩ c4) (some b) :=
  grown_trans (grown_trans (grown_trans (grown_trans (grown_set _ _ _ _) (grown_set _ _ _ _)) (grown_set _ _ _ _)) (grown_set _ _ _ _)) (grown_set _ _ _ _)
theorem results_box2 {P : Program} {fn : Func} {p u : Tmp} {ty : TypeId} (h : fn.results = #[.cell p ty, .tmp u]) (tmps : Array Value) (w : World) (g : Nat) (t : TypeId) (cs : Array Value) (fr : Nat × Nat) (d : TypeDesc)
    (hp : tmps.getD p undef = .pointer (some ⟨g, 0, none⟩)) (hg : w.heap[g]? = some (.cells cs t fr))
    (hu : P.underlying ty = some d) (hd : (match d with | .struct _ | .array _ _ => true | _ => false) = true) (hi : (P.info? ty).map (·.size) = some cs.size) :
    (results fn tmps).run P w = .ok (.tuple #[.agg cs, tmps.getD u undef]) w := by
  rw [results_cell_tmp h, hp]
  simp [asAddr, run_loadVar_row w g t ty cs fr d hg hu hd hi]
theorem eninfo : (Try.prog.info? 42).map (fun i => (i.zero, i.size, i.bytes)) = some (some (.agg #[.slice none 0 0, .int .i64 0, .bool false, .int .i64 0, .slice none 0 0]), 5, 72) := by kernel_rfl
theorem ones5 {a b c d f : Value} (ha : a.oneCell' = true) (hb : b.oneCell' = true) (hc : c.oneCell' = true) (hd : d.oneCell' = true) (hf : f.oneCell' = true) : ∀ u ∈ (#[a, b, c, d, f] : Array Value).toList, u.oneCell' = true := by
  intro u hu
  simp only [List.mem_cons, List.not_mem_nil, or_false] at hu
  rcases hu with rfl | rfl | rfl | rfl | rfl <;> assumption
/-- An entry's cells, its bytes one's own. -/
def PEo (w : World) (base : Nat) (x : List Value) (e : EntR) : Prop :=
  ∃ kv vv, x = [kv, .int .i64 (eSeq e), .bool (eGone e), .int .i64 (eTil e), vv] ∧ OB w base kv (eKey e) ∧ OB w base vv (eVal e)
theorem PEo.grown {w w' : World} {base base' : Nat} {v : Value} {V : List (List Value)} {x : List Value} {e : EntR} (h : PEo w base x e) (hg : w.grownBy w' v.ownBlock) (hv : OV w base' 42 5 v V) : PEo w' base x e := by
  obtain ⟨kv, vv, hx, h1, h2⟩ := h
  exact ⟨kv, vv, hx, h1.other hg (h1.apart_row hv (by decide)), h2.other hg (h2.apart_row hv (by decide))⟩
theorem PEo.below {w w' : World} {base : Nat} {x : List Value} {e : EntR} (h : PEo w base x e) (hb : Below w.heap.size w w') : PEo w' base x e := by
  obtain ⟨kv, vv, hx, h1, h2⟩ := h
  exact ⟨kv, vv, hx, h1.below hb, h2.below hb⟩
theorem PEo.mono {w : World} {base base' : Nat} {x : List Value} {e : EntR} (h : PEo w base x e) (hb : base' ≤ base) : PEo w base' x e := by
  obtain ⟨kv, vv, hx, h1, h2⟩ := h
  exact ⟨kv, vv, hx, h1.mono hb, h2.mono hb⟩
/-- A row of entries, all of it one's own. -/
def ROw (w : World) (base : Nat) (v : Value) (es : List EntR) : Prop := ∃ V, OV w base 42 5 v V ∧ RelV noEnt (PEo w base) V es
theorem ROw.nil (w : World) (base : Nat) : ROw w base (.slice none 0 0) [] := ⟨[], OV.nil _ _ _ _, RelV.nil⟩
theorem ROw.below {w w' : World} {base : Nat} {v : Value} {es : List EntR} (h : ROw w base v es) (hb : Below w.heap.size w w') : ROw w' base v es := by
  obtain ⟨V, h1, h2⟩ := h
  exact ⟨V, h1.below hb, h2.mono fun x a hx => hx.below hb⟩
theorem row_step {wr w4 w3 : World} {base : Nat} {v kv vv : Value} {V : List (List Value)} {es : List EntR} {e : EntR} (hb4 : Below wr.heap.size wr w4) (hown : OV wr base 42 5 v V) (hrel : RelV noEnt (PEo wr base) V es) (hbase : base ≤ wr.heap.size)
    (ok : OB w4 wr.heap.size kv (eKey e)) (ov : OB w4 wr.heap.size vv (eVal e)) (hg : w4.grownBy w3 v.ownBlock) : RelV noEnt (PEo w3 base) (V ++ [[kv, .int .i64 (eSeq e), .bool (eGone e), .int .i64 (eTil e), vv]]) (es ++ [e]) :=
  RelV.snoc (hrel.mono fun x a hx => (hx.below hb4).grown hg (hown.below hb4)) ⟨kv, vv, rfl, OB.mono (ok.other hg (ok.apart_row (hown.below hb4) (by decide))) hbase, OB.mono (ov.other hg (ov.apart_row (hown.below hb4) (by decide))) hbase⟩
/-- An entry's cells at an address. -/
def EnC (w : World) (ad : Addr) (e : EntR) : Prop := ∃ Ak nk ck Av nv cv, w.cell? ad = some (.slice Ak nk ck) ∧ w.cell? ⟨ad.block, ad.off + 1, none⟩ = some (.int .i64 (eSeq e)) ∧ w.cell? ⟨ad.block, ad.off + 2, none⟩ = some (.bool (eGone e)) ∧ w.cell? ⟨ad.block, ad.off + 3, none⟩ = some (.int .i64 (eTil e)) ∧ w.cell? ⟨ad.block, ad.off + 4, none⟩ = some (.slice Av nv cv) ∧
  RB w Ak nk (eKey e) ∧ RB w Av nv (eVal e) ∧ nk ≤ ck ∧ nv ≤ cv
theorem EnC.below {w w' : World} {ad : Addr} {e : EntR} (h : EnC w ad e) (hb : Below w.heap.size w w') : EnC w' ad e := by
  obtain ⟨Ak, nk, ck, Av, nv, cv, h0, h1, h2, h3, h4, h5, h6, h7, h8⟩ := h
  exact ⟨Ak, nk, ck, Av, nv, cv, below_cell hb h0, below_cell hb h1, below_cell hb h2, below_cell hb h3, below_cell hb h4, h5.below hb, h6.below hb, h7, h8⟩
def REnts (w : World) (A : Option Addr) (n : Nat) (es : List EntR) : Prop :=
  es.length = n ∧ n ≤ 9223372036854775807 ∧ (0 < n → ∃ ad, A = some ad ∧ ∀ j, j < n → EnC w (ad.add (j * 5)) (elt noEnt es j))
theorem REnts.at_ {w : World} {A : Option Addr} {n : Nat} {es : List EntR} (h : REnts w A n es) {j : Nat} (hj : j < n) : ∃ ad, A = some ad ∧ EnC w (ad.add (j * 5)) (elt noEnt es j) := by
  obtain ⟨ad, e, hc⟩ := h.2.2 (by omega)
  exact ⟨ad, e, hc j hj⟩
theorem REnts.below {w w' : World} {A : Option Addr} {n : Nat} {es : List EntR} (h : REnts w A n es) (hb : Below w.heap.size w w') : REnts w' A n es :=
  ⟨h.1, h.2.1, fun hn => by
    obtain ⟨ad, e, hc⟩ := h.2.2 hn
    exact ⟨ad, e, fun j hj => (hc j hj).below hb⟩⟩
theorem REnts.nil (w : World) : REnts w none 0 [] := ⟨rfl, by decide, fun h => absurd h (by omega)⟩
/-- An entry's cells, its bytes read in a world. -/
def PER (w : World) (x : List Value) (e : EntR) : Prop :=
  ∃ Ak nk ck Av nv cv, x = [.slice Ak nk ck, .int .i64 (eSeq e), .bool (eGone e), .int .i64 (eTil e), .slice Av nv cv] ∧ RB w Ak nk (eKey e) ∧ RB w Av nv (eVal e) ∧ nk ≤ ck ∧ nv ≤ cv
theorem PEo.reads {w : World} {base : Nat} {x : List Value} {e : EntR} (h : PEo w base x e) : PER w x e := by
  obtain ⟨kv, vv, rfl, h1, h2⟩ := h
  obtain ⟨Ak, ck, rfl, hrk, hck⟩ := h1.open_
  obtain ⟨Av, cv, rfl, hrv, hcv⟩ := h2.open_
  exact ⟨Ak, _, ck, Av, _, cv, rfl, hrk, hrv, hck, hcv⟩
theorem PER.below {w w' : World} {x : List Value} {e : EntR} (h : PER w x e) (hb : Below w.heap.size w w') : PER w' x e := by
  obtain ⟨Ak, nk, ck, Av, nv, cv, e, h1, h2, h3, h4⟩ := h
  exact ⟨Ak, nk, ck, Av, nv, cv, e, h1.below hb, h2.below hb, h3, h4⟩
theorem REnts_of {w : World} {base : Nat} {v : Value} {V : List (List Value)} {es : List EntR} (h : OV w base 42 5 v V) (hr : RelV noEnt (PER w) V es) (hm : es.length ≤ 9223372036854775807) :
    ∃ A c, v = .slice A es.length c ∧ es.length ≤ c ∧ REnts w A es.length es := by
  have hl := hr.1
  rcases Nat.eq_zero_or_pos V.length with h0 | h0
  · obtain ⟨A, c, rfl, hc⟩ := h.open_
    exact ⟨A, c, by rw [hl], by omega, rfl, hm, fun hn => absurd hn (by omega)⟩
  · obtain ⟨g, c, rfl, _, _, hc⟩ := h.form h0
    refine ⟨_, c, by rw [hl], by omega, rfl, hm, fun _ => ⟨_, rfl, fun j hj => ?_⟩⟩
    obtain ⟨Ak, nk, ck, Av, nv, cv, hx, h1, h2, h3, h4⟩ := hr.2 j (by omega)
    have hc5 := fun i (hi : i < 5) => h.cell (j := j) (i := i) (by omega) hi
    rw [hx] at hc5
    rw [add_plain, Nat.zero_add]
    exact ⟨Ak, nk, ck, Av, nv, cv, hc5 0 (by omega), hc5 1 (by omega), hc5 2 (by omega), hc5 3 (by omega), hc5 4 (by omega), h1, h2, h3, h4⟩
theorem ROw.len {w : World} {base : Nat} {v : Value} {es : List EntR} (h : ROw w base v es) (hm : es.length ≤ 9223372036854775807) : ∃ A c, v = .slice A es.length c ∧ es.length ≤ c ∧ REnts w A es.length es := by
  obtain ⟨V, h1, h2⟩ := h
  exact REnts_of h1 (h2.mono fun x a hx => hx.reads) hm
theorem cmpB_nil_right (xs : List UInt8) : 0 ≤ cmpB xs [] := by
  cases xs with
  | nil => decide
  | cons x xs =>
    show (0 : Int) ≤ 1
    decide
theorem mayN_cases {nk nv : Nat} {s u : Int} {g : Bool} (h : mayN nk s g u nv = true) : 1 ≤ nk ∧ nk ≤ 512 ∧ nv ≤ 2048 ∧ 1 ≤ s ∧ s ≤ 4611686018427387904 := by
  unfold mayN at h
  rw [decide_eq_true_iff] at h
  exact ⟨h.1, h.2.1, h.2.2.1, h.2.2.2.1, h.2.2.2.2.1⟩
theorem mayE_cases {e : EntR} (h : mayE e = true) : 1 ≤ (eKey e).length ∧ (eKey e).length ≤ 512 ∧ (eVal e).length ≤ 2048 ∧ 1 ≤ eSeq e ∧ eSeq e ≤ 4611686018427387904 := mayN_cases h
theorem elt_mem {es : List EntR} {k : Nat} (h : k < es.length) : elt noEnt es k ∈ es := by
  unfold elt
  simp [h]
theorem drop_elt {es : List EntR} {k : Nat} (h : k < es.length) : es.drop k = elt noEnt es k :: es.drop (k + 1) := by
  rw [List.drop_eq_getElem_cons h]
  unfold elt
  simp [h]
end Go.Proofs.Ytkkclkknpjapcaa
/-! ### R -/
namespace Go.Proofs.Ytkkclkknpjapcaa
open Go.RowKit
set_option linter.unusedVariables false
set_option linter.unusedSimpArgs false

def upd (u : Nat → Value) (i : Nat) (v : Value) : Nat → Value := fun j => if j = i then v else u j
theorem upd_same (u : Nat → Value) (i : Nat) (v : Value) : upd u i v i = v := by simp [upd]
theorem upd_ne (u : Nat → Value) {i j : Nat} (v : Value) (h : j ≠ i) : upd u i v j = u j := by simp [upd, h]

inductive OpsOK (F : Nat → Oper → Prop) : Nat → List Oper → Prop
  | nil {i : Nat} : OpsOK F i []
  | cons {i : Nat} {o : Oper} {l : List Oper} (h : F i o) (k : OpsOK F (i + 1) l) : OpsOK F i (o :: l)
theorem OpsOK.get {F : Nat → Oper → Prop} {l : List Oper} {s : Nat} (h : OpsOK F s l) : ∀ {i : Nat} {o : Oper}, l[i]? = some o → F (s + i) o := by
  induction h with
  | nil => intro i o h; simp at h
  | cons h k ih =>
    intro i o hi
    rcases i with _ | i
    · simp at hi; subst hi; exact h
    · have := ih (i := i) (by simpa using hi)
      rwa [Nat.add_assoc, Nat.add_comm 1] at this

/-- What an operation does to the world, seen from the rows: it changes nothing that was there, or only the row that it uses up. -/
def Change (row : Nat → Bool) (par : Nat → Option Nat) (i : Nat) (u : Nat → Value) (w : World) (v : Value) (w' : World) : Prop :=
  match par i with
  | none => Below w.heap.size w w' ∧ (row i = true → ∀ k, v.ownBlock = some k → w.heap.size ≤ k)
  | some p => w.grownBy w' (u p).ownBlock ∧ AtRow w.heap.size (u p) v

section
variable {P : Program} {ops : Array Oper} {Q : Exit → Act → World → Prop}

def OpOK (P : Program) (ops : Array Oper) (Q : Exit → Act → World → Prop) (mk : (Nat → Value) → Act) (T : Nat → Value → World → Prop) (row : Nat → Bool) (eat : Nat → Nat) (par : Nat → Option Nat) (w : World) (i : Nat) (o : Oper) : Prop :=
  ∀ (u : Nat → Value) (W : World) (K : Act → World → Prop), Below w.heap.size w W →
    (∀ e ∈ o.after, Region.binds .any e = true → ops.size ≤ eat e.on ∨ eat e.on = i → T e.on (u e.on) W) →
    Hid (∀ v W', T i v W' → Change row par i u W v W' → K ((mk u).put o.dst v) W') →
    if Region.wanted o (yielded ops (mk u).tmps) = true then Oper.wp P o (mk u) W K Q else K ((mk u).put o.dst undef) W

def PutOK (mk : (Nat → Value) → Act) (i : Nat) (o : Oper) : Prop := ∀ u v, (mk u).put o.dst v = mk (upd u i v)
/-- What is seen by looking at the region: the operations lie in the order of their edges, and each eater stands behind its row. -/
def statOK (ops : Array Oper) (row : Nat → Bool) (eat : Nat → Nat) (par : Nat → Option Nat) : Bool :=
  (List.range ops.size).all fun i => match ops[i]? with
    | none => true
    | some o => (o.after.all fun e => decide (e.on < i)) && (match par i with
      | none => true
      | some p => (eat p == i) && row p && row i && o.after.any fun e => Region.binds .any e && e.on == p)

structure Inv (ops : Array Oper) (T : Nat → Value → World → Prop) (row : Nat → Bool) (eat : Nat → Nat) (w : World) (listed : Array Bool) (u : Nat → Value) (W : World) : Prop where
  below : Below w.heap.size w W
  size : listed.size = ops.size
  facts : ∀ i, listed.getD i false = true → listed.getD (eat i) false = false → T i (u i) W
  apart : ∀ i j, row i = true → row j = true → i ≠ j → listed.getD i false = true → listed.getD j false = true → listed.getD (eat i) false = false → listed.getD (eat j) false = false → (u i).ownBlock = none ∨ (u i).ownBlock ≠ (u j).ownBlock

theorem statOK_after {row : Nat → Bool} {eat : Nat → Nat} {par : Nat → Option Nat} (h : statOK ops row eat par = true) {i : Nat} {o : Oper} (ho : ops[i]? = some o) : ∀ e ∈ o.after, e.on < i := by
  have hlt : i < ops.size := (Array.getElem?_eq_some_iff.1 ho).1
  have h1 := List.all_eq_true.1 h i (List.mem_range.2 hlt)
  simp only [ho, Bool.and_eq_true] at h1
  intro e he
  simpa using Array.all_eq_true_iff_forall_mem.1 h1.1 e he
theorem statOK_par {row : Nat → Bool} {eat : Nat → Nat} {par : Nat → Option Nat} (h : statOK ops row eat par = true) {i p : Nat} {o : Oper} (ho : ops[i]? = some o) (hp : par i = some p) :
    eat p = i ∧ row p = true ∧ row i = true ∧ ∃ e ∈ o.after, Region.binds .any e = true ∧ e.on = p := by
  have hlt : i < ops.size := (Array.getElem?_eq_some_iff.1 ho).1
  have h1 := List.all_eq_true.1 h i (List.mem_range.2 hlt)
  simp only [ho, hp, Bool.and_eq_true, beq_iff_eq] at h1
  obtain ⟨_, ⟨⟨h2, h3⟩, h4⟩, h5⟩ := h1
  obtain ⟨e, he, hb⟩ := Array.any_eq_true'.1 h5
  simp only [Bool.and_eq_true, beq_iff_eq] at hb
  exact ⟨h2, h3, h4, e, he, hb.1, hb.2⟩

theorem getD_set_self {listed : Array Bool} {i : Nat} (h : i < listed.size) : (listed.setIfInBounds i true).getD i false = true := by simp [h]
theorem getD_set_back {listed : Array Bool} {i j : Nat} (h : (listed.setIfInBounds i true).getD j false = false) : listed.getD j false = false := by
  by_cases hx : listed.getD j false = true
  · rw [getD_set_true hx] at h; cases h
  · simpa using hx
theorem getD_false_of {listed : Array Bool} {i : Nat} (h : listed.getD i true = false) : listed.getD i false = false ∧ i < listed.size := by
  rcases Nat.lt_or_ge i listed.size with h' | h'
  · simp [h'] at h ⊢; exact h
  · simp [Array.getElem?_eq_none h'] at h

theorem Inv.step {T : Nat → Value → World → Prop} {row : Nat → Bool} {eat : Nat → Nat} {par : Nat → Option Nat} {w W W' : World} {listed : Array Bool} {u : Nat → Value} {v : Value} {i : Nat} {o : Oper}
    (hst : statOK ops row eat par = true)
    (hstab : ∀ j v W W' rw, T j v W → W.grownBy W' rw → (row j = true → v.ownBlock = none ∨ v.ownBlock ≠ rw) → (∀ k, rw = some k → w.heap.size ≤ k) → Below w.heap.size w W → T j v W')
    (hbound : ∀ j v W, row j = true → T j v W → ∀ k, v.ownBlock = some k → w.heap.size ≤ k ∧ k < W.heap.size)
    (h : Inv ops T row eat w listed u W) (hi : i ∈ Region.ready .any ops listed) (ho : ops[i]? = some o) (hT : T i v W') (hc : Change row par i u W v W') :
    Inv ops T row eat w (listed.setIfInBounds i true) (upd u i v) W' := by
  obtain ⟨hun, o', ho', hall⟩ := mem_ready.1 hi
  obtain rfl : o = o' := by rw [ho] at ho'; exact Option.some.inj ho'
  obtain ⟨hunf, hlt⟩ := getD_false_of hun
  unfold Change at hc
  cases hp : par i with
  | none =>
    rw [hp] at hc
    obtain ⟨hB, hfr⟩ := hc
    have keep : ∀ j, j ≠ i → listed.getD j false = true → listed.getD (eat j) false = false → T j (u j) W' := fun j hj h1 h2 =>
      hstab j (u j) W W' none (h.facts j h1 h2) (below_grown hB none) (fun _ => by cases (u j).ownBlock <;> simp) (fun k hk => by cases hk) h.below
    refine ⟨below_then h.below hB, by simpa using h.size, fun j h1 h2 => ?_, fun j k hj hk hne h1 h2 h3 h4 => ?_⟩
    · by_cases hji : j = i
      · subst hji; rw [upd_same]; exact hT
      · rw [upd_ne u v hji]
        rw [getD_set_ne false (Ne.symm hji)] at h1
        exact keep j hji h1 (getD_set_back h2)
    · by_cases hji : j = i
      · subst hji
        rw [upd_same, upd_ne u v (Ne.symm hne)]
        rw [getD_set_ne false hne] at h2
        have bk := hbound k (u k) W hk (h.facts k h2 (getD_set_back h4))
        cases hv : v.ownBlock with
        | none => exact .inl rfl
        | some q =>
          refine .inr fun he => ?_
          have := (bk q he.symm).2
          have := hfr hj q hv
          omega
      · rw [upd_ne u v hji]
        rw [getD_set_ne false (Ne.symm hji)] at h1
        by_cases hki : k = i
        · subst hki
          rw [upd_same]
          have bj := hbound j (u j) W hj (h.facts j h1 (getD_set_back h3))
          cases hv : (u j).ownBlock with
          | none => exact .inl rfl
          | some q =>
            refine .inr fun he => ?_
            have := (bj q hv).2
            have := hfr hk q he.symm
            omega
        · rw [upd_ne u v hki]
          rw [getD_set_ne false (Ne.symm hki)] at h2
          exact h.apart j k hj hk hne h1 h2 (getD_set_back h3) (getD_set_back h4)
  | some p =>
    rw [hp] at hc
    obtain ⟨hg, hat⟩ := hc
    obtain ⟨he, hrp, hri, e, hein, hbin, heon⟩ := statOK_par hst ho hp
    have hpl : listed.getD p false = true := by rw [← heon]; exact hall e hein hbin
    have hpe : listed.getD (eat p) false = false := by rw [he]; exact hunf
    have hTp := h.facts p hpl hpe
    have hbp := hbound p (u p) W hrp hTp
    have notp : ∀ j, (listed.setIfInBounds i true).getD (eat j) false = false → j ≠ p := fun j hj hjp => by
      rw [hjp, he, getD_set_self hlt] at hj; cases hj
    have keep : ∀ j, j ≠ i → j ≠ p → listed.getD j false = true → listed.getD (eat j) false = false → T j (u j) W' := fun j hj hjp h1 h2 =>
      hstab j (u j) W W' _ (h.facts j h1 h2) hg (fun hr => h.apart j p hr hrp hjp h1 hpl h2 hpe) (fun k hk => (hbp k hk).1) h.below
    refine ⟨h.below.grown hg (below_base h.below (Nat.le_refl _)) (fun k hk => (hbp k hk).1), by simpa using h.size, fun j h1 h2 => ?_, fun j k hj hk hne h1 h2 h3 h4 => ?_⟩
    · by_cases hji : j = i
      · subst hji; rw [upd_same]; exact hT
      · rw [upd_ne u v hji]
        rw [getD_set_ne false (Ne.symm hji)] at h1
        exact keep j hji (notp j h2) h1 (getD_set_back h2)
    · by_cases hji : j = i
      · subst hji
        rw [upd_same, upd_ne u v (Ne.symm hne)]
        rw [getD_set_ne false hne] at h2
        have bk := hbound k (u k) W hk (h.facts k h2 (getD_set_back h4))
        rcases hat with hat | ⟨q, hq, hge⟩
        · rw [hat]
          exact h.apart p k hrp hk (Ne.symm (notp k h4)) hpl h2 hpe (getD_set_back h4)
        · refine .inr fun hx => ?_
          have := (bk q (hx.symm.trans hq)).2
          omega
      · rw [upd_ne u v hji]
        rw [getD_set_ne false (Ne.symm hji)] at h1
        by_cases hki : k = i
        · subst hki
          rw [upd_same]
          have bj := hbound j (u j) W hj (h.facts j h1 (getD_set_back h3))
          rcases hat with hat | ⟨q, hq, hge⟩
          · rw [hat]
            exact h.apart j p hj hrp (notp j h3) h1 hpl (getD_set_back h3) hpe
          · cases hv : (u j).ownBlock with
            | none => exact .inl rfl
            | some r =>
              refine .inr fun hx => ?_
              rw [hq] at hx
              have := (bj r hv).2
              have := Option.some.inj hx
              omega
        · rw [upd_ne u v hki]
          rw [getD_set_ne false (Ne.symm hki)] at h2
          exact h.apart j k hj hk hne h1 h2 (getD_set_back h3) (getD_set_back h4)

theorem all_listed {row : Nat → Bool} {eat : Nat → Nat} {par : Nat → Option Nat} (hst : statOK ops row eat par = true) {listed : Array Bool} (hsz : listed.size = ops.size) (hr : Region.ready .any ops listed = []) :
    ∀ i, i < ops.size → listed.getD i false = true := by
  intro i
  induction i using Nat.strongRecOn with
  | ind i ih =>
    intro hi
    by_cases hl : listed.getD i false = true
    · exact hl
    · exfalso
      obtain ⟨o, ho⟩ : ∃ o, ops[i]? = some o := ⟨_, Array.getElem?_eq_getElem hi⟩
      have hm : i ∈ Region.ready .any ops listed := mem_ready.2 ⟨by
        have h' : i < listed.size := by omega
        simp [h'] at hl ⊢; exact hl, o, ho, fun e he _ => ih e.on (statOK_after hst ho e he) (by have := statOK_after hst ho e he; omega)⟩
      rw [hr] at hm
      cases hm

theorem inv_any {T : Nat → Value → World → Prop} {row : Nat → Bool} {eat : Nat → Nat} {par : Nat → Option Nat} {w : World} {mk : (Nat → Value) → Act}
    (hst : statOK ops row eat par = true)
    (hstab : ∀ j v W W' rw, T j v W → W.grownBy W' rw → (row j = true → v.ownBlock = none ∨ v.ownBlock ≠ rw) → (∀ k, rw = some k → w.heap.size ≤ k) → Below w.heap.size w W → T j v W')
    (hbound : ∀ j v W, row j = true → T j v W → ∀ k, v.ownBlock = some k → w.heap.size ≤ k ∧ k < W.heap.size)
    (hput : ∀ i o, ops[i]? = some o → PutOK mk i o)
    (hops : ∀ i o, ops[i]? = some o → OpOK P ops Q mk T row eat par w i o)
    (hend : ∀ u W, Below w.heap.size w W → (∀ i, i < ops.size → ops.size ≤ eat i → T i (u i) W) → Q .normal (mk u) W) :
    ∀ (fuel : Nat) (listed : Array Bool) (u : Nat → Value) (W : World), Inv ops T row eat w listed u W → listed.toList.count false ≤ fuel → wpAny P .any ops Q fuel listed (mk u) W := by
  have fin : ∀ (listed : Array Bool) (u : Nat → Value) (W : World), Inv ops T row eat w listed u W → Region.ready .any ops listed = [] → Q .normal (mk u) W := fun listed u W h hr =>
    hend u W h.below fun i hi he => h.facts i (all_listed hst h.size hr i hi) (by have := h.size; simp [show ¬ eat i < listed.size by omega])
  intro fuel
  induction fuel with
  | zero =>
    intro listed u W h hc
    have hr : Region.ready .any ops listed = [] := by
      refine List.eq_nil_iff_forall_not_mem.2 fun i hi => ?_
      obtain ⟨h0, _⟩ := mem_ready.1 hi
      obtain ⟨h1, hlt⟩ := getD_false_of h0
      have : false ∈ listed.toList := by
        simp [hlt] at h1
        rw [← h1]
        simp
      have := List.count_pos_iff.2 this
      omega
    exact ⟨hr, fin listed u W h hr⟩
  | succ fuel ih =>
    intro listed u W h hc
    refine ⟨fin listed u W h, fun i hi => ?_⟩
    obtain ⟨hun, o, ho, hall⟩ := mem_ready.1 hi
    obtain ⟨hunf, hlt⟩ := getD_false_of hun
    refine wpOp_step ho fun K' hK => hops i o ho u W K' h.below (fun e he hb hor => h.facts e.on (hall e he hb) ?_) fun v W' hT hc' => hK _ _ ?_
    · rcases hor with hor | hor
      · have := h.size
        simp [show ¬ eat e.on < listed.size by omega]
      · rw [hor]; exact hunf
    · rw [hput i o ho u v]
      refine ih _ _ _ (h.step hst hstab hbound hi ho hT hc') ?_
      have : (listed.setIfInBounds i true).toList.count false = listed.toList.count false - 1 := by
        rw [Array.toList_setIfInBounds, List.count_set (by simpa using hlt)]
        simp [hlt] at hunf
        simp [hunf]
      omega

theorem wp_region_inv {id : Nat} {a : Act} {w : World} (mk : (Nat → Value) → Act) (u0 : Nat → Value) (T : Nat → Value → World → Prop) (row : Nat → Bool) (eat : Nat → Nat) (par : Nat → Option Nat) (L : List Oper)
    (hm : P.follows .mixedOrders = true) (ha : a = mk u0) (hL : ops.toList = L)
    (hst : statOK ops row eat par = true)
    (hstab : ∀ j v W W' rw, T j v W → W.grownBy W' rw → (row j = true → v.ownBlock = none ∨ v.ownBlock ≠ rw) → (∀ k, rw = some k → w.heap.size ≤ k) → Below w.heap.size w W → T j v W')
    (hbound : ∀ j v W, row j = true → T j v W → ∀ k, v.ownBlock = some k → w.heap.size ≤ k ∧ k < W.heap.size)
    (hput : OpsOK (PutOK mk) 0 L)
    (hops : OpsOK (OpOK P ops Q mk T row eat par w) 0 L)
    (hend : ∀ u W, Below w.heap.size w W → (∀ i, i < ops.size → ops.size ≤ eat i → T i (u i) W) → Q .normal (mk u) W) :
    (Code.region id ops true).wp P Q a w := by
  subst ha hL
  have get : ∀ {F : Nat → Oper → Prop}, OpsOK F 0 ops.toList → ∀ i o, ops[i]? = some o → F i o := fun h i o ho => by
    have := h.get (i := i) (o := o) (by simpa using ho)
    rwa [Nat.zero_add] at this
  refine wp_region_any hm (inv_any hst hstab hbound (get hput) (get hops) hend ops.size _ u0 _ ?_ (by simp))
  refine ⟨?_, by simp, fun i h => ?_, fun i j _ _ _ h => ?_⟩
  · exact (Below.refl _ w).drew
  · exfalso; simp [Array.getElem?_replicate] at h; split at h <;> cases h
  · exfalso; simp [Array.getElem?_replicate] at h; split at h <;> cases h
end
end Go.Proofs.Ytkkclkknpjapcaa
/-! ### RF -/
namespace Go.Proofs.Ytkkclkknpjapcaa
open Go.RowKit
set_option linter.unusedVariables false
set_option linter.unusedSimpArgs false

def nth {α : Type} : List α → Nat → α → α
  | [], _, d => d
  | x :: _, 0, _ => x
  | _ :: l, n + 1, d => nth l n d
def Facts (base : Nat) (rows : List Nat) (vals : List Value) (bs : List (List UInt8)) (i : Nat) (v : Value) (W : World) : Prop :=
  match rows.contains i with
  | true => OB W base v (nth bs i [])
  | false => v = nth vals i undef
def eatOf (pars : List (Nat × Nat)) (p : Nat) : Nat := match pars.find? (·.1 == p) with
  | some x => x.2
  | none => 1000000
def parOf (pars : List (Nat × Nat)) (i : Nat) : Option Nat := (pars.find? (·.2 == i)).map (·.1)

theorem Facts.stab {base : Nat} {rows : List Nat} {vals : List Value} {bs : List (List UInt8)} {w : World} (hb : base = w.heap.size) :
    ∀ j v W W' rw, Facts base rows vals bs j v W → W.grownBy W' rw → (rows.contains j = true → v.ownBlock = none ∨ v.ownBlock ≠ rw) → (∀ k, rw = some k → w.heap.size ≤ k) → Below w.heap.size w W → Facts base rows vals bs j v W' := by
  intro j v W W' rw h hg hne _ _
  unfold Facts at *
  cases hr : rows.contains j with
  | true => rw [hr] at h hne; exact OB.other h hg (hne rfl)
  | false => rw [hr] at h; exact h
theorem Facts.bound {base : Nat} {rows : List Nat} {vals : List Value} {bs : List (List UInt8)} {w : World} (hb : base = w.heap.size) :
    ∀ j v W, rows.contains j = true → Facts base rows vals bs j v W → ∀ k, v.ownBlock = some k → w.heap.size ≤ k ∧ k < W.heap.size := by
  intro j v W hr h k hk
  unfold Facts at h
  rw [hr] at h
  subst hb
  exact World.ownsRow.lt h k hk

theorem wp_region_facts {P : Program} {ops : Array Oper} {Q : Exit → Act → World → Prop} {id : Nat} {a : Act} {w : World} (mk : (Nat → Value) → Act) (u0 : Nat → Value) (rows : List Nat) (pars : List (Nat × Nat)) (vals : List Value) (bs : List (List UInt8)) (L : List Oper)
    (hm : P.follows .mixedOrders = true) (ha : a = mk u0) (hL : ops.toList = L)
    (hst : statOK ops (fun i => rows.contains i) (eatOf pars) (parOf pars) = true)
    (hput : OpsOK (PutOK mk) 0 L)
    (hops : OpsOK (OpOK P ops Q mk (Facts w.heap.size rows vals bs) (fun i => rows.contains i) (eatOf pars) (parOf pars) w) 0 L)
    (hend : ∀ u W, Below w.heap.size w W → (∀ i, i < ops.size → ops.size ≤ eatOf pars i → Facts w.heap.size rows vals bs i (u i) W) → Q .normal (mk u) W) :
    (Code.region id ops true).wp P Q a w :=
  wp_region_inv mk u0 _ _ _ _ L hm ha hL hst (Facts.stab rfl) (Facts.bound rfl) hput hops hend

theorem dep_of {ops : Array Oper} {o : Oper} {T : Nat → Value → World → Prop} {eat : Nat → Nat} {u : Nat → Value} {W : World} {i : Nat}
    (hd : ∀ e ∈ o.after, Region.binds .any e = true → ops.size ≤ eat e.on ∨ eat e.on = i → T e.on (u e.on) W) (d : Nat)
    (h : (o.after.any fun e => Region.binds .any e && e.on == d) = true) (h2 : (decide (ops.size ≤ eat d) || eat d == i) = true) : T d (u d) W := by
  obtain ⟨e, he, hb⟩ := Array.any_eq_true'.1 h
  simp only [Bool.and_eq_true, beq_iff_eq] at hb
  obtain ⟨hb, rfl⟩ := hb
  exact hd e he hb (by simpa using h2)

/-- The slots of a frame, those that the region fills by letters. -/
def lay : List Value → List (Option Nat) → (Nat → Value) → List Value
  | [], _, _ => []
  | x :: l, [], u => x :: lay l [] u
  | x :: l, none :: s, u => x :: lay l s u
  | _ :: l, some i :: s, u => u i :: lay l s u
/-- What stood in the slots ahead of the region. -/
def was : List Value → List (Option Nat) → Nat → Value
  | [], _, _ => undef
  | _, [], _ => undef
  | _ :: l, none :: s, i => was l s i
  | x :: l, some k :: s, i => if k = i then x else was l s i

theorem wp_region_txt {P : Program} {ops : Array Oper} {Q : Exit → Act → World → Prop} {id : Nat} {T : List Value} {D : List Deferred} {w : World} (s : List (Option Nat)) (rows : List Nat) (pars : List (Nat × Nat)) (vals : List Value) (bs : List (List UInt8))
    (hm : P.follows .mixedOrders = true) (hs : lay T s (was T s) = T)
    (hst : statOK ops (fun i => rows.contains i) (eatOf pars) (parOf pars) = true)
    (hput : OpsOK (PutOK fun u => ⟨(lay T s u).toArray, D⟩) 0 ops.toList)
    (hops : OpsOK (OpOK P ops Q (fun u => ⟨(lay T s u).toArray, D⟩) (Facts w.heap.size rows vals bs) (fun i => rows.contains i) (eatOf pars) (parOf pars) w) 0 ops.toList)
    (hend : ∀ u W, Below w.heap.size w W → (∀ i, i < ops.size → ops.size ≤ eatOf pars i → Facts w.heap.size rows vals bs i (u i) W) → Q .normal ⟨(lay T s u).toArray, D⟩ W) :
    (Code.region id ops true).wp P Q ⟨T.toArray, D⟩ w :=
  wp_region_facts (fun u => ⟨(lay T s u).toArray, D⟩) (was T s) rows pars vals bs ops.toList hm (by rw [hs]) rfl hst hput hops hend

section
variable {P : Program} {ops : Array Oper} {Q : Exit → Act → World → Prop} {o : Oper} {a : Act} {w W : World} {K : Act → World → Prop} {u : Nat → Value} {rows : List Nat} {pars : List (Nat × Nat)} {vals : List Value} {bs : List (List UInt8)} {i : Nat}
theorem hk_val (hK : Hid (∀ v W', Facts w.heap.size rows vals bs i v W' → Change (fun i => rows.contains i) (parOf pars) i u W v W' → K (a.put o.dst v) W')) (hr : rows.contains i = false) (hp : parOf pars i = none) :
    Hid (∀ v W', v = nth vals i undef → Below W.heap.size W W' → K (a.put o.dst v) W') := fun v W' h1 h2 =>
  hK v W' (by unfold Facts; rw [hr]; exact h1) (by unfold Change; rw [hp]; exact ⟨h2, fun h => by rw [show (fun i => rows.contains i) i = rows.contains i from rfl, hr] at h; cases h⟩)
theorem hk_row (hB : Below w.heap.size w W) (hK : Hid (∀ v W', Facts w.heap.size rows vals bs i v W' → Change (fun i => rows.contains i) (parOf pars) i u W v W' → K (a.put o.dst v) W')) (hr : rows.contains i = true) (hp : parOf pars i = none) :
    Hid (∀ v W', OB W' W.heap.size v (nth bs i []) → Below W.heap.size W W' → K (a.put o.dst v) W') := fun v W' h1 h2 =>
  hK v W' (by unfold Facts; rw [hr]; exact OB.mono h1 (Below.size hB)) (by unfold Change; rw [hp]; exact ⟨h2, fun _ k hk => OB.base_ h1 k hk⟩)
theorem hk_par (hK : Hid (∀ v W', Facts w.heap.size rows vals bs i v W' → Change (fun i => rows.contains i) (parOf pars) i u W v W' → K (a.put o.dst v) W')) (hr : rows.contains i = true) (p : Nat) (hp : parOf pars i = some p) :
    Hid (∀ v W', OB W' w.heap.size v (nth bs i []) → W.grownBy W' (u p).ownBlock → AtRow W.heap.size (u p) v → K (a.put o.dst v) W') := fun v W' h1 h2 h3 =>
  hK v W' (by unfold Facts; rw [hr]; exact h1) (by unfold Change; rw [hp]; exact ⟨h2, h3⟩)
theorem fact_val {v : Value} (h : Facts w.heap.size rows vals bs i v W) (hr : rows.contains i = false) : v = nth vals i undef := by
  unfold Facts at h; rw [hr] at h; exact h
theorem fact_row {v : Value} (h : Facts w.heap.size rows vals bs i v W) (hr : rows.contains i = true) : OB W w.heap.size v (nth bs i []) := by
  unfold Facts at h; rw [hr] at h; exact h
end
end Go.Proofs.Ytkkclkknpjapcaa
