/- Shared texts, part S08: CrcC, CrcM, MmN, TbA, TbF, TbB. -/
import Derived.Test.YtkkclkknpjapcaaProg
import Derived.Handy
import Derived.Deep.Cut
import Derived.Test.YtkkclkknpjapcaaS01
import Derived.Test.YtkkclkknpjapcaaS07
import Derived.Test.YtkkclkknpjapcaaS04
import Derived.Test.YtkkclkknpjapcaaS03
/-! ### CrcC -/
namespace Go.Proofs.Ytkkclkknpjapcaa
open Go.RowKit
set_option linter.unusedVariables false
set_option linter.unusedSimpArgs false

theorem crcR_odd {s : Nat} (h : s % 2 = 1) : crcR s = (s / 2) ^^^ 2197175160 := by unfold crcR; rw [if_pos h]
theorem crcR_even {s : Nat} (h : ¬ s % 2 = 1) : crcR s = s / 2 := by unfold crcR; rw [if_neg h]
theorem and1_odd {t : Nat} (ht : t < 4294967296) (h : t % 2 = 1) : bits .and .u32 (t : Int) 1 = 1 := by
  have e := u32_and_nat t 1 ht (by omega)
  rw [Nat.and_one_is_mod, h] at e
  exact e
theorem and1_even {t : Nat} (ht : t < 4294967296) (h : ¬ t % 2 = 1) : bits .and .u32 (t : Int) 1 = 0 := by
  have e := u32_and_nat t 1 ht (by omega)
  rw [Nat.and_one_is_mod, show t % 2 = 0 from by omega] at e
  exact e
theorem xor_poly {t : Nat} (ht : t < 4294967296) (h : t % 2 = 1) : bits .xor .u32 ((t : Int) / 2) 2197175160 = (crcR t : Int) := by
  rw [crcR_odd h]
  exact u32_xor_nat (t / 2) 2197175160 (by omega) (by omega)
theorem shr_one {t : Nat} (h : ¬ t % 2 = 1) : (t : Int) / 2 = (crcR t : Int) := by rw [crcR_even h]; omega
theorem ret_u32 {a b : Int} (h : a = b) : Ending.returned (.int .u32 a) = .returned (.int .u32 b) := by rw [h]

set_option maxRecDepth 100000 in
theorem step_any (s x : Nat) (hs : s < 4294967296) (hx : x < 256) (w : World) :
    Calls Try.prog 90 #[.int .u32 (s : Int), .int .u8 (x : Int)] w fun e w' => e = .returned (.int .u32 (crcStep s x : Nat)) ∧ w = w' := by
  have hx1 : s ^^^ x < 4294967296 := Nat.xor_lt_two_pow (n := 32) (by omega) (by omega)
  have e1 := u32_xor_nat s x hs (by omega)
  go_enter Try.func90, Try.ntmps90
  go_wp2
  refine wp_scope_ghost 0 (fun m a' w' => w' = w ∧ ∃ (n t : Nat) (u6 u7 u8 u9 u10 u11 u12 u13 u14 u15 u16 u17 u18 u19 u20 u21 u22 u23 : Value), a' = { tmps := #[.int .u32 t, .int .u8 x, undef, undef, .int .u32 0, .int .i64 n, u6, u7, u8, u9, u10, u11, u12, u13, u14, u15, u16, u17, u18, u19, u20, u21, u22, u23], defers := [] } ∧ crcRs n t = crcStep s x ∧ t < 4294967296 ∧ 1 ≤ n ∧ n ≤ 8 ∧ m = n) rfl ?_ ?_
  · rintro m a' w' ⟨rfl, n, t, u6, u7, u8, u9, u10, u11, u12, u13, u14, u15, u16, u17, u18, u19, u20, u21, u22, u23, rfl, hr, ht, hn, hn8, rfl⟩
    have hlt := crcR_lt ht
    obtain ⟨k, rfl⟩ : ∃ k, m = k + 1 := ⟨m - 1, by omega⟩
    have HR := hid hr
    clear hr
    by_cases ho : t % 2 = 1
    · have e2 := and1_odd ht ho
      have e3 := xor_poly ht ho
      by_cases h1 : k = 0
      · subst h1
        go_wp2
        simp only [Exit.jump]
        go_ret
        exact ⟨ret_u32 (by rw [← HR.out]; rfl), rfl⟩
      · go_wp2
        refine wp_goto_k (Jumped.mk k (by omega) ⟨rfl, k, crcR t, _, _, _, _, _, _, _, _, _, _, _, _, _, _, _, _, _, _, rfl, HR.out, hlt, by omega, by omega, rfl⟩)
    · have e2 := and1_even ht ho
      have e3 := shr_one ho
      by_cases h1 : k = 0
      · subst h1
        go_wp2
        simp only [Exit.jump]
        go_ret
        exact ⟨ret_u32 (by rw [← HR.out]; rfl), rfl⟩
      · go_wp2
        refine wp_goto_k (Jumped.mk k (by omega) ⟨rfl, k, crcR t, _, _, _, _, _, _, _, _, _, _, _, _, _, _, _, _, _, _, rfl, HR.out, hlt, by omega, by omega, rfl⟩)
  · intro hpass
    go_wp2
    refine wp_label_k (by assumption) (hpass 8 _ _ ?_)
    exact ⟨rfl, 8, s ^^^ x, _, _, _, _, _, _, _, _, _, _, _, _, _, _, _, _, _, _, rfl, rfl, hx1, by omega, by omega, rfl⟩

theorem inv_u32 (s : Nat) (h : s < 4294967296) : bits .xor .u32 4294967295 (s : Int) = (crcInv s : Int) := by
  have e := u32_xor_nat 4294967295 s (by omega) h
  have : 4294967295 ^^^ s = crcInv s := by
    rw [show crcInv s = 2 ^ 32 - (s + 1) from by unfold crcInv; omega, show (4294967295 : Nat) = 2 ^ 32 - 1 from rfl]
    apply Nat.eq_of_testBit_eq
    intro i
    rw [Nat.testBit_xor, Nat.testBit_two_pow_sub_one, Nat.testBit_two_pow_sub_succ h]
    by_cases hi : i < 32
    · simp [hi]
    · simp only [hi, decide_false, Bool.false_and, Bool.false_xor]
      have h2 : 2 ^ 32 ≤ 2 ^ i := Nat.pow_le_pow_right (by decide) (Nat.le_of_not_lt hi)
      exact Nat.testBit_lt_two_pow (Nat.lt_of_lt_of_le h h2)
  rw [this] at e
  exact e
theorem u32_signed : IntKind.u32.signed = false := rfl
theorem u32_max : IntKind.u32.max = 4294967295 := rfl
theorem more_any (s : Nat) (hs : s < 4294967296) (A : Option Addr) (n c : Nat) (xs : List UInt8) (w : World) (h : RB w A n xs) :
    Calls Try.prog 86 #[.int .u32 (s : Int), .slice A n c] w fun e w' => e = .returned (.int .u32 (crcMore s xs : Nat)) ∧ w = w' := by
  have hl := h.len
  have hm := h.max
  have i0 := inv_u32 s hs
  have hi := crcInv_lt s
  have q1 := u32_signed
  have q2 := u32_max
  go_enter Try.func86, Try.ntmps86
  go_wp2
  go_loop [0, 11] (fun t i => ∃ k : Nat, k ≤ n ∧ i = .int .i64 k ∧ t = .int .u32 (crcFold (crcInv s) (xs.take k) : Nat)) (fun _ i => n - (intOf i).toNat)
  case atStart => exact ⟨0, Nat.zero_le _, rfl, rfl⟩
  case round =>
    obtain ⟨k, hk, rfl, rfl⟩ := hrel
    have hf := crcFold_lt (xs.take k) hi
    by_cases hlt : k < n
    · obtain ⟨ad, rfl, hc⟩ := h.at_ hlt
      have hb := bAt_lt xs k
      go_wp2_with (go_at_call 90; refine (step_any _ _ hf hb _).mono ?_; rintro e w' ⟨rfl, rfl⟩)
      go_round
      case rel =>
        refine ⟨k + 1, by omega, by go_num, ?_⟩
        rw [List.take_succ_eq_append_getElem (by omega), crcFold_snoc, bAt_get (by omega)]
      case measure => simp [intOf]; omega
    · have i1 := inv_u32 _ hf
      go_wp2
      go_ret
      refine ⟨ret_u32 ?_, rfl⟩
      unfold crcMore
      rw [List.take_of_length_le (by omega)]

theorem refmore_any (s : Nat) (hs : s < 4294967296) (A : Option Addr) (n c : Nat) (xs : List UInt8) (w : World) (h : RB w A n xs) :
    Calls Try.prog 88 #[.int .u32 (s : Int), .slice A n c] w fun e w' => e = .returned (.int .u32 (crcMore s xs : Nat)) ∧ w = w' := by
  have hl := h.len
  have hm := h.max
  have i0 := inv_u32 s hs
  have hi := crcInv_lt s
  have q1 := u32_signed
  have q2 := u32_max
  go_enter Try.func88, Try.ntmps88
  go_wp2
  go_loop [0, 11] (fun t i => ∃ k : Nat, k ≤ n ∧ i = .int .i64 k ∧ t = .int .u32 (crcFold (crcInv s) (xs.take k) : Nat)) (fun _ i => n - (intOf i).toNat)
  case atStart => exact ⟨0, Nat.zero_le _, rfl, rfl⟩
  case round =>
    obtain ⟨k, hk, rfl, rfl⟩ := hrel
    have hf := crcFold_lt (xs.take k) hi
    by_cases hlt : k < n
    · obtain ⟨ad, rfl, hc⟩ := h.at_ hlt
      have hb := bAt_lt xs k
      have e1 := u32_xor_nat _ _ hf (show bAt xs k < 4294967296 by omega)
      have hx1 : crcFold (crcInv s) (xs.take k) ^^^ bAt xs k < 4294967296 := Nat.xor_lt_two_pow (n := 32) (by omega) (by omega)
      go_wp2
      go_loop [0, 19] (fun t i => ∃ j m : Nat, j ≤ 8 ∧ i = .int .i64 j ∧ t = .int .u32 (m : Nat) ∧ m < 4294967296 ∧ crcRs (8 - j) m = crcStep (crcFold (crcInv s) (xs.take k)) (bAt xs k)) (fun _ i => 8 - (intOf i).toNat)
      case atStart => exact ⟨0, _, by omega, rfl, rfl, hx1, rfl⟩
      case round =>
        obtain ⟨j, m, hj, rfl, rfl, hm8, hr⟩ := hrel
        have HR := hid hr
        clear hr
        have hmr := crcR_lt hm8
        by_cases hj8 : j < 8
        · have HS : Hid (crcRs (8 - (j + 1)) (crcR m) = crcStep (crcFold (crcInv s) (xs.take k)) (bAt xs k)) := by
            rw [← HR.out, show 8 - j = (8 - (j + 1)) + 1 from by omega]
            rfl
          by_cases ho : m % 2 = 1
          · have e2 := and1_odd hm8 ho
            have e3 := xor_poly hm8 ho
            go_wp2
            go_round
            case rel => exact ⟨j + 1, crcR m, by omega, by go_num, rfl, hmr, HS.out⟩
            case measure => simp [intOf]; omega
          · have e2 := and1_even hm8 ho
            have e3 := shr_one ho
            go_wp2
            go_round
            case rel => exact ⟨j + 1, crcR m, by omega, by go_num, rfl, hmr, HS.out⟩
            case measure => simp [intOf]; omega
        · obtain rfl : j = 8 := by omega
          go_wp2
          go_round
          case rel =>
            refine ⟨k + 1, by omega, by go_num, ?_⟩
            rw [List.take_succ_eq_append_getElem (by omega), crcFold_snoc, ← bAt_get (by omega), ← HR.out]
            rfl
          case measure => simp [intOf]; omega
    · have i1 := inv_u32 _ hf
      go_wp2
      go_ret
      refine ⟨ret_u32 ?_, rfl⟩
      unfold crcMore
      rw [List.take_of_length_le (by omega)]
theorem sum_any (A : Option Addr) (n c : Nat) (xs : List UInt8) (w : World) (h : RB w A n xs) :
    Calls Try.prog 70 #[.slice A n c] w fun e w' => e = .returned (.int .u32 (crcMore 0 xs : Nat)) ∧ w = w' := by
  go_enter Try.func70, Try.ntmps70
  go_wp2_with (go_at_call 86; refine (more_any 0 (by omega) _ _ _ xs _ h).mono ?_; rintro e w' ⟨rfl, rfl⟩)
  go_ret
  exact ⟨rfl, rfl⟩
theorem refsum_any (A : Option Addr) (n c : Nat) (xs : List UInt8) (w : World) (h : RB w A n xs) :
    Calls Try.prog 74 #[.slice A n c] w fun e w' => e = .returned (.int .u32 (crcMore 0 xs : Nat)) ∧ w = w' := by
  go_enter Try.func74, Try.ntmps74
  go_wp2_with (go_at_call 88; refine (refmore_any 0 (by omega) _ _ _ xs _ h).mono ?_; rintro e w' ⟨rfl, rfl⟩)
  go_ret
  exact ⟨rfl, rfl⟩
end Go.Proofs.Ytkkclkknpjapcaa
/-! ### CrcM -/
namespace Go.Proofs.Ytkkclkknpjapcaa
open Go.RowKit
set_option linter.unusedVariables false
set_option linter.unusedSimpArgs false

theorem mask_or {s : Nat} (h : s < 4294967296) : bits .or .u32 ((s : Int) / 32768) ((s : Int) * 131072 % 4294967296) = ((s / 32768 + (s % 32768) * 131072 : Nat) : Int) := by
  have e := u32_or_nat (s / 32768) (s * 131072 % 4294967296) (by omega) (by omega)
  rw [show s * 131072 % 4294967296 = (s % 32768) * 2 ^ 17 from by omega, Nat.or_comm, or_low _ _ _ (by omega)] at e
  rw [show (s : Int) * 131072 % 4294967296 = (((s % 32768) * 2 ^ 17 : Nat) : Int) from by omega]
  rw [show ((s : Int) / 32768) = ((s / 32768 : Nat) : Int) from by omega, e]
  omega
theorem unmask_or {y : Nat} (h : y < 4294967296) : bits .or .u32 ((y : Int) * 32768 % 4294967296) ((y : Int) / 131072) = (((y % 131072) * 32768 + y / 131072 : Nat) : Int) := by
  have e := u32_or_nat (y * 32768 % 4294967296) (y / 131072) (by omega) (by omega)
  rw [show y * 32768 % 4294967296 = (y % 131072) * 2 ^ 15 from by omega, or_low _ _ _ (by omega)] at e
  rw [show (y : Int) * 32768 % 4294967296 = (((y % 131072) * 2 ^ 15 : Nat) : Int) from by omega]
  rw [show ((y : Int) / 131072) = ((y / 131072 : Nat) : Int) from by omega, e]
theorem refmask_any (s : Nat) (hs : s < 4294967296) (w : World) :
    Calls Try.prog 73 #[.int .u32 (s : Int)] w fun e w' => e = .returned (.int .u32 (crcMask s : Nat)) ∧ w = w' := by
  have e := mask_or hs
  go_enter Try.func73, Try.ntmps73
  go_wp2
  go_ret
  refine ⟨ret_u32 ?_, rfl⟩
  unfold crcMask
  omega
theorem rot_count_m15 : bits .and .u64 (IntKind.u64.wrap (-15)) 31 = 17 := by decide +kernel
theorem rot_count_15 : bits .and .u64 15 31 = 15 := by decide +kernel
theorem bits_or_comm (k : IntKind) (a b : Int) : bits .or k a b = bits .or k b a := by
  show k.wrap ((BitVec.ofInt k.bits a ||| BitVec.ofInt k.bits b).toNat : Int) = k.wrap ((BitVec.ofInt k.bits b ||| BitVec.ofInt k.bits a).toNat : Int)
  rw [BitVec.or_comm]
theorem rot_m15 (s : Nat) (hs : s < 4294967296) (w : World) :
    Calls Try.prog 85 #[.int .u32 (s : Int), .int .i64 (-15)] w fun e w' => e = .returned (.int .u32 ((s / 32768 + (s % 32768) * 131072 : Nat) : Int)) ∧ w = w' := by
  have e := mask_or hs
  have e1 : bits .or .u32 ((s : Int) * 131072 % 4294967296) ((s : Int) / 32768) = ((s / 32768 + (s % 32768) * 131072 : Nat) : Int) := by
    rw [← e, bits_or_comm]
  have k := rot_count_m15
  go_enter Try.func85, Try.ntmps85
  go_wp2
  go_ret
  exact ⟨ret_u32 rfl, rfl⟩
theorem rot_15 (s : Nat) (hs : s < 4294967296) (w : World) :
    Calls Try.prog 85 #[.int .u32 (s : Int), .int .i64 15] w fun e w' => e = .returned (.int .u32 (((s % 131072) * 32768 + s / 131072 : Nat) : Int)) ∧ w = w' := by
  have e := unmask_or hs
  have k := rot_count_15
  go_enter Try.func85, Try.ntmps85
  go_wp2
  go_ret
  exact ⟨ret_u32 rfl, rfl⟩
theorem mask_any (s : Nat) (hs : s < 4294967296) (w : World) :
    Calls Try.prog 69 #[.int .u32 (s : Int)] w fun e w' => e = .returned (.int .u32 (crcMask s : Nat)) ∧ w = w' := by
  go_enter Try.func69, Try.ntmps69
  go_wp2_with (go_at_call 85; refine (rot_m15 s hs _).mono ?_; rintro e w' ⟨rfl, rfl⟩)
  go_ret
  refine ⟨ret_u32 ?_, rfl⟩
  unfold crcMask
  omega
end Go.Proofs.Ytkkclkknpjapcaa
/-! ### MmN -/
namespace Go.Proofs.Ytkkclkknpjapcaa
open Go.RowKit
set_option linter.unusedVariables false
set_option linter.unusedSimpArgs false

theorem OV.reads {w : World} {base size : Nat} {e : TypeId} {A : Option Addr} {n c : Nat} {V : List (List Value)} (h : OV w base e size (.slice A n c) V) (hn : V.length = n) : Reads w size A n V.flatten := by
  refine ⟨by rw [flat_len V h.2, hn], fun h0 => ?_⟩
  have h1 := h
  subst hn
  obtain ⟨g, c', he, _⟩ := h1.form h0
  injection he with e1 _ _
  subst e1
  refine ⟨_, rfl, fun j u hu => ?_⟩
  exact h.1.cells (g := g) rfl j _ hu
theorem Reads.below {w w' : World} {size : Nat} {A : Option Addr} {n : Nat} {xs : List Value} (h : Reads w size A n xs) (hb : Below w.heap.size w w') : Reads w' size A n xs :=
  ⟨h.1, fun h0 => by
    obtain ⟨ad, e, hc⟩ := h.2 h0
    exact ⟨ad, e, fun j u hu => below_cell hb (hc j u hu)⟩⟩
theorem Reads.suf {w : World} {size : Nat} {A : Option Addr} {n : Nat} {xs : List Value} (h : Reads w size A n xs) {lo c : Nat} (h1 : lo ≤ n) (hc : n ≤ c) : Reads w size (if c = lo then A else A.map (·.add (lo * size))) (n - lo) (xs.drop (lo * size)) := by
  refine ⟨by rw [List.length_drop, h.1, Nat.sub_mul], fun h0 => ?_⟩
  obtain ⟨ad, rfl, hcell⟩ := h.2 (by omega)
  rw [if_neg (by omega)]
  refine ⟨_, rfl, fun j u hu => ?_⟩
  rw [add_of_add]
  rw [List.getElem?_drop] at hu
  exact hcell _ u hu
theorem Reads.pre {w : World} {size : Nat} {A : Option Addr} {n : Nat} {xs : List Value} (h : Reads w size A n xs) {k : Nat} (h1 : k ≤ n) : Reads w size A k (xs.take (k * size)) := by
  have hle : k * size ≤ n * size := Nat.mul_le_mul_right _ h1
  refine ⟨by rw [List.length_take, h.1]; omega, fun h0 => ?_⟩
  obtain ⟨ad, rfl, hcell⟩ := h.2 (by omega)
  refine ⟨_, rfl, fun j u hu => hcell j u ?_⟩
  rw [List.getElem?_take] at hu
  split at hu
  · exact hu
  · cases hu
theorem flat_take {α : Type} {size : Nat} : ∀ (V : List (List α)) (k : Nat), (∀ x ∈ V, x.length = size) → (V.take k).flatten = V.flatten.take (k * size) := by
  intro V
  induction V with
  | nil => intro k _; simp
  | cons x V ih =>
    intro k h
    cases k with
    | zero => simp
    | succ k =>
      have hx : x.length = size := h x (by simp)
      have e1 : (k + 1) * size = x.length + k * size := by rw [Nat.succ_mul, hx]; omega
      rw [List.take_succ_cons, List.flatten_cons, List.flatten_cons, ih k (fun y hy => h y (by simp [hy])), e1, List.take_length_add_append]
theorem flat_drop {α : Type} {size : Nat} : ∀ (V : List (List α)) (k : Nat), (∀ x ∈ V, x.length = size) → (V.drop k).flatten = V.flatten.drop (k * size) := by
  intro V
  induction V with
  | nil => intro k _; simp
  | cons x V ih =>
    intro k h
    cases k with
    | zero => simp
    | succ k =>
      have hx : x.length = size := h x (by simp)
      have e1 : (k + 1) * size = x.length + k * size := by rw [Nat.succ_mul, hx]; omega
      rw [List.drop_succ_cons, List.flatten_cons, ih k (fun y hy => h y (by simp [hy])), e1, List.drop_length_add_append]
theorem elemE : Try.prog.underlying 22 = some (.slice (Try.prog.elem 22)) := by kernel_rfl
theorem sizeE (w : World) : (sizeOf (Try.prog.elem 22)).run Try.prog w = .ok 5 w := by
  obtain ⟨i, hi, _, hs, _⟩ := info_parts eninfo
  have he : Try.prog.elem 22 = 42 := by kernel_rfl
  rw [he]
  simp [sizeOf, typeInfo, hi, hs]
theorem cutE_lo {A : Option Addr} {n c : Nat} (hc : n ≤ c) {lo : Nat} (h1 : lo ≤ n) (L : Int) (hL : L = (lo : Int)) :
    ∃ A2 c2, (∀ w, (Instr.slice 22 (.slice A n c) (some (.int .i64 L)) none none).run Try.prog w = .ok (.slice A2 (n - lo) c2) w) ∧ (∀ w xs, Reads w 5 A n xs → Reads w 5 A2 (n - lo) (xs.drop (lo * 5))) ∧ n - lo ≤ c2 := by
  subst hL
  refine ⟨if c = lo then A else A.map (·.add (lo * 5)), c - lo, fun w => ?_, fun w xs h => h.suf h1 hc, by omega⟩
  rw [run_slice_l (P := Try.prog) w 22 A n c elemE .i64 lo (by omega) (by omega), sizeE]
  simp [sliced, Result.andThen]
theorem cutE_hi {A : Option Addr} {n c : Nat} (hc : n ≤ c) {hi : Nat} (h1 : hi ≤ n) (H : Int) (hH : H = (hi : Int)) :
    ∃ c2, (∀ w, (Instr.slice 22 (.slice A n c) none (some (.int .i64 H)) none).run Try.prog w = .ok (.slice A hi c2) w) ∧ (∀ w xs, Reads w 5 A n xs → Reads w 5 A hi (xs.take (hi * 5))) ∧ hi ≤ c2 := by
  subst hH
  refine ⟨c, fun w => ?_, fun w xs h => h.pre h1, by omega⟩
  rw [run_slice_h (P := Try.prog) w 22 A n c elemE .i64 hi (by omega) (by omega), sizeE]
  cases A <;> simp [sliced, Result.andThen, Addr.add]
/-- append of records, inside a region that draws its order. -/
theorem stepV_append {ops : Array Oper} {o : Oper} {a : Act} {K : Act → World → Prop} {Q : Exit → Act → World → Prop} {E : Prop} (t e : TypeId) (z : Value) (size bytes : Nat) (ht : Try.prog.underlying t = some (.slice e))
    (hinfo : (Try.prog.info? e).map (fun i => (i.zero, i.size, i.bytes)) = some (some z, size, bytes)) (hzs : z.cells.size = size) (hsz : 0 < size) (w0 w : World) (hwant : Region.wanted o (yielded ops a.tmps) = true) (s x : Operand)
    (ho : o.op = .call { callee := .builtin .append, args := #[s, x], argTypes := #[t, t] })
    (v : Value) (V : List (List Value)) (hs : a.eval s = v) (hown : OV w w0.heap.size e size v V) (A : Option Addr) (m c : Nat) (U : List (List Value)) (hx : a.eval x = .slice A m c) (hr : Reads w size A m U.flatten) (hU : ∀ x ∈ U, x.length = size) (hm : U.length = m) (hu : ∀ u ∈ U.flatten, u.oneCell' = true)
    (hmax : V.length + m ≤ maxLen) (hbytes : (V.length + m) * bytes ≤ 140737488355328) (hB : Below w0.heap.size w0 w)
    (h : ∀ v' w', OV w' w0.heap.size e size v' (V ++ U) → Below w0.heap.size w0 w' → w.grownBy w' v.ownBlock → K (a.put o.dst v') w') : if Region.wanted o (yielded ops a.tmps) = true then Oper.wp Try.prog o a w K Q else E := by
  refine step_append_any _ rfl hwant s x _ ho w0.heap.size e z size bytes ht hinfo hzs hsz v V.length V.flatten hs hown.1 _ m c U.flatten hx hr hu hmax hbytes hB.size ?_
  intro v' w' h2 h3 h4
  refine h v' w' ⟨?_, ?_⟩ (hB.grown h3 hB.size (own_base hown.1)) h3
  · rw [List.length_append, List.flatten_append, hm]
    exact h2
  · intro y hy
    rcases List.mem_append.1 hy with hy | hy
    · exact hown.2 y hy
    · exact hU y hy
/-- The place of an entry in a row. -/
def posE (es : List EntR) (e : EntR) : Nat := (preK (eKey e) (eSeq e) es).length
theorem pos_take (es : List EntR) (e : EntR) : es.take (posE es e) = preK (eKey e) (eSeq e) es := by
  have := pre_suf (eKey e) (eSeq e) es
  conv => lhs; rw [← this]
  unfold posE
  rw [List.take_left']
  rw [this]
theorem pos_drop (es : List EntR) (e : EntR) : es.drop (posE es e) = sufK (eKey e) (eSeq e) es := by
  have := pre_suf (eKey e) (eSeq e) es
  conv => lhs; rw [← this]
  unfold posE
  rw [List.drop_left']
  rw [this]
theorem pos_le (es : List EntR) (e : EntR) : posE es e ≤ es.length := by
  have := congrArg List.length (pre_suf (eKey e) (eSeq e) es)
  rw [List.length_append] at this
  unfold posE
  omega
theorem pos_lt {es : List EntR} {e : EntR} {j : Nat} (h : j < posE es e) : aheadE (elt noEnt es j) e = true := by
  have hl := pos_le es e
  refine pre_all (key := eKey e) (s := eSeq e) (l := es) _ ?_
  rw [← pos_take, elt_get noEnt (show j < es.length by omega)]
  exact List.mem_take_iff_getElem.2 ⟨j, by omega, rfl⟩
theorem suf_head {key : List UInt8} {s : Int} {es : List EntR} {x : EntR} {l : List EntR} (h : sufK key s es = x :: l) : aheadK x key s = false := by
  induction es with
  | nil => cases h
  | cons y m ih =>
    rw [sufK] at h
    split at h
    · exact ih h
    · rename_i hy
      injection h with h1 _
      rw [← h1]
      simpa using hy
theorem pos_at {es : List EntR} {e : EntR} (h : posE es e < es.length) : aheadE (elt noEnt es (posE es e)) e = false := by
  have hd := pos_drop es e
  rw [drop_elt h] at hd
  exact suf_head hd.symm
theorem has_pos {es : List EntR} {e : EntR} : hasE es e = true ↔ posE es e < es.length ∧ aheadR (elt noEnt es (posE es e)) e = 0 := by
  unfold hasE
  rw [← pos_drop, aheadR_zero]
  rcases Nat.lt_or_ge (posE es e) es.length with h | h
  · rw [drop_elt h]
    simp [h, and_comm]
  · rw [List.drop_eq_nil_of_le h]
    simp
    omega
theorem ins_pos (es : List EntR) (e : EntR) : insE es e = es.take (posE es e) ++ e :: es.drop (posE es e) := by rw [pos_take, pos_drop]; rfl
section
variable {α : Type} {d : α} {P : List Value → α → Prop} {V U : List (List Value)} {xs ys : List α}
theorem RelV.app (h : RelV d P V xs) (k : RelV d P U ys) : RelV d P (V ++ U) (xs ++ ys) := by
  refine ⟨by simp [h.1, k.1], fun j hj => ?_⟩
  rw [List.length_append] at hj
  by_cases hjv : j < V.length
  · rw [elt_left' _ _ _ hjv, elt_left' _ _ _ (by rw [← h.1]; exact hjv)]
    exact h.2 j hjv
  · rw [elt_right' _ _ _ (by omega), elt_right' _ _ _ (by rw [← h.1]; omega), ← h.1]
    exact k.2 _ (by omega)
theorem elt_take' {β : Type} (d : β) (l : List β) (k j : Nat) (h : j < k) : elt d (l.take k) j = elt d l j := by
  unfold elt
  rw [List.getD_eq_getElem?_getD, List.getD_eq_getElem?_getD, List.getElem?_take, if_pos h]
theorem elt_drop' {β : Type} (d : β) (l : List β) (k j : Nat) : elt d (l.drop k) j = elt d l (k + j) := by
  unfold elt
  rw [List.getD_eq_getElem?_getD, List.getD_eq_getElem?_getD, List.getElem?_drop]
theorem RelV.take (h : RelV d P V xs) (k : Nat) : RelV d P (V.take k) (xs.take k) := by
  refine ⟨by simp [h.1], fun j hj => ?_⟩
  rw [List.length_take] at hj
  rw [elt_take' _ _ _ _ (by omega), elt_take' _ _ _ _ (by omega)]
  exact h.2 j (by omega)
theorem RelV.drop (h : RelV d P V xs) (k : Nat) : RelV d P (V.drop k) (xs.drop k) := by
  refine ⟨by simp [h.1], fun j hj => ?_⟩
  rw [List.length_drop] at hj
  rw [elt_drop', elt_drop']
  exact h.2 _ (by omega)
end
theorem PER.len5 {w : World} {x : List Value} {e : EntR} (h : PER w x e) : x.length = 5 ∧ ∀ u ∈ x, u.oneCell' = true := by
  obtain ⟨Ak, nk, ck, Av, nv, cv, rfl, _⟩ := h
  exact ⟨rfl, ones5 rfl rfl rfl rfl rfl⟩
theorem RelV.ones {w : World} {V : List (List Value)} {es : List EntR} (h : RelV noEnt (PER w) V es) : ∀ u ∈ V.flatten, u.oneCell' = true := by
  intro u hu
  obtain ⟨x, hx, hux⟩ := List.mem_flatten.1 hu
  obtain ⟨j, hj, rfl⟩ := List.getElem_of_mem hx
  have := h.2 j hj
  rw [elt_get _ hj] at this
  exact this.len5.2 u hux
end Go.Proofs.Ytkkclkknpjapcaa
/-! ### TbA -/
namespace Go.Proofs.Ytkkclkknpjapcaa
open Go.RowKit
set_option linter.unusedVariables false
set_option linter.unusedSimpArgs false

/-- Bytes with their sum behind them. -/
def sumOf (b : List UInt8) : Nat := crcMask (crcMore 0 b)
def sumB (b : List UInt8) : List UInt8 := b ++ fixB (sumOf b) 4
theorem sumOf_lt (b : List UInt8) : sumOf b < 4294967296 := crcMask_lt _
theorem sumB_len (b : List UInt8) : (sumB b).length = b.length + 4 := by rw [sumB, List.length_append, fix4_len]
def wgt (e : EntR) : Nat := (eKey e).length + (eVal e).length + 16
/-- How many entries the first block has, where the ones ahead weigh W. -/
def cutL : Nat → List EntR → Nat
  | _, [] => 0
  | W, e :: l => if 256 ≤ W + wgt e then 1 else cutL (W + wgt e) l + 1
def cutN (es : List EntR) : Nat := cutL 0 es
theorem cutL_le : ∀ (l : List EntR) (W : Nat), cutL W l ≤ l.length := by
  intro l
  induction l with
  | nil => intro W; simp [cutL]
  | cons e l ih =>
    intro W
    rw [cutL]
    have := ih (W + wgt e)
    split <;> simp only [List.length_cons] <;> omega
theorem cutL_pos {l : List EntR} (h : l ≠ []) (W : Nat) : 1 ≤ cutL W l := by
  cases l with
  | nil => exact absurd rfl h
  | cons e l => rw [cutL]; split <;> omega
theorem cutL_few : ∀ (l : List EntR) (W : Nat), 16 * cutL W l + W < 256 + 16 ∨ cutL W l ≤ 1 := by
  intro l
  induction l with
  | nil => intro W; exact .inr (by simp [cutL])
  | cons e l ih =>
    intro W
    have hw : 16 ≤ wgt e := by unfold wgt; omega
    rw [cutL]
    by_cases h : 256 ≤ W + wgt e
    · rw [if_pos h]; exact .inr (by omega)
    · rw [if_neg h]
      rcases ih (W + wgt e) with h1 | h1
      · exact .inl (by omega)
      · by_cases h2 : cutL (W + wgt e) l = 0
        · exact .inr (by omega)
        · exact .inl (by omega)
theorem cutN_le (es : List EntR) : cutN es ≤ es.length := cutL_le _ _
theorem cutN_pos {es : List EntR} (h : es ≠ []) : 1 ≤ cutN es := cutL_pos h _
theorem cutN_few (es : List EntR) : cutN es ≤ 16 := by
  unfold cutN
  rcases cutL_few es 0 with h | h <;> omega
theorem cutL_step {es : List EntR} {W k : Nat} (hk : k < es.length) : cutL W (es.drop k) = if 256 ≤ W + wgt (elt noEnt es k) then 1 else cutL (W + wgt (elt noEnt es k)) (es.drop (k + 1)) + 1 := by
  rw [drop_elt hk, cutL]
/-- The index's bytes of one block. -/
def idxB (key : List UInt8) (at_ n : Nat) : List UInt8 := ((uvar key.length ++ key) ++ uvar at_) ++ uvar n
/-- The blocks' bytes and the index's, from what is there. -/
def blkF : Nat → List EntR → List UInt8 → List UInt8 → List UInt8 × List UInt8
  | 0, _, out, idx => (out, idx)
  | f + 1, es, out, idx => if es = [] then (out, idx) else
      blkF f (es.drop (cutN es)) (out ++ sumB (encK (es.take (cutN es)))) (idx ++ idxB (eKey (elt noEnt es (cutN es - 1))) out.length (encK (es.take (cutN es))).length)
/-- The keys, each once. -/
def keysU (es : List EntR) : Nat → List (List UInt8)
  | 0 => []
  | k + 1 => if k = 0 ∨ eKey (elt noEnt es (k - 1)) ≠ eKey (elt noEnt es k) then keysU es k ++ [eKey (elt noEnt es k)] else keysU es k
theorem keysU_len (es : List EntR) : ∀ k, (keysU es k).length ≤ k := by
  intro k
  induction k with
  | zero => simp [keysU]
  | succ k ih => rw [keysU]; split <;> (try rw [List.length_append, List.length_singleton]) <;> omega
def magicB : List UInt8 := [104, 97, 108, 121, 97, 114, 100, 49]
def footB (a i n f m : Nat) : List UInt8 := (((fixB a 4 ++ fixB i 4) ++ fixB n 4) ++ fixB f 4) ++ fixB m 4
theorem footB_len (a i n f m : Nat) : (footB a i n f m).length = 20 := by simp [footB, fix4_len]
def blocksB (es : List EntR) : List UInt8 := (blkF es.length es [] []).1
def indexB (es : List EntR) : List UInt8 := (blkF es.length es [] []).2
def filtB (es : List EntR) : List UInt8 := filterB (keysU es es.length)
/-- A table's bytes. -/
def tabB (es : List EntR) : List UInt8 :=
  (((blocksB es ++ sumB (indexB es)) ++ sumB (filtB es)) ++ sumB (footB (blocksB es).length (indexB es).length (blocksB es ++ sumB (indexB es)).length (filtB es).length es.length)) ++ magicB
/-- What Build answers. -/
def TbC (es : List EntR) (E : Nat) : Prop :=
  ((es.length = 0 ∨ 4000 < es.length) ∧ E = 13) ∨ ((1 ≤ es.length ∧ es.length ≤ 4000) ∧ ¬ AllM es ∧ E = 1) ∨ ((1 ≤ es.length ∧ es.length ≤ 4000) ∧ AllM es ∧ ¬ Srt es ∧ E = 11) ∨
  ((1 ≤ es.length ∧ es.length ≤ 4000) ∧ AllM es ∧ Srt es ∧ 4194304 < (tabB es).length ∧ E = 8) ∨ ((1 ≤ es.length ∧ es.length ≤ 4000) ∧ AllM es ∧ Srt es ∧ (tabB es).length ≤ 4194304 ∧ E = 0)
def FitT (es : List EntR) : Prop := (1 ≤ es.length ∧ es.length ≤ 4000) ∧ AllM es ∧ Srt es ∧ (tabB es).length ≤ 4194304
theorem TbC.fit {es : List EntR} {E : Nat} (h : TbC es E) : E = 0 ↔ FitT es := by
  rcases h with ⟨h1, rfl⟩ | ⟨h1, h2, rfl⟩ | ⟨h1, h2, h3, rfl⟩ | ⟨h1, h2, h3, h4, rfl⟩ | ⟨h1, h2, h3, h4, rfl⟩
  · exact ⟨fun h => by omega, fun h => by have := h.1; omega⟩
  · exact ⟨fun h => by omega, fun h => absurd h.2.1 h2⟩
  · exact ⟨fun h => by omega, fun h => absurd h.2.2.1 h3⟩
  · exact ⟨fun h => by omega, fun h => by have := h.2.2.2; omega⟩
  · exact ⟨fun _ => ⟨h1, h2, h3, h4⟩, fun _ => rfl⟩
theorem TbC.unique {es : List EntR} {a b : Nat} (h : TbC es a) (k : TbC es b) : a = b := by
  rcases h with ⟨h1, rfl⟩ | ⟨h1, h2, rfl⟩ | ⟨h1, h2, h3, rfl⟩ | ⟨h1, h2, h3, h4, rfl⟩ | ⟨h1, h2, h3, h4, rfl⟩ <;> rcases k with ⟨k1, rfl⟩ | ⟨k1, k2, rfl⟩ | ⟨k1, k2, k3, rfl⟩ | ⟨k1, k2, k3, k4, rfl⟩ | ⟨k1, k2, k3, k4, rfl⟩ <;> first | rfl | omega | (exact absurd h2 k2) | (exact absurd k2 h2) | (exact absurd k3 h3) | (exact absurd h3 k3)
/-- Parts of rows in order. -/
theorem AllM.take {es : List EntR} (h : AllM es) (k : Nat) : AllM (es.take k) := fun j hj => by
  rw [List.length_take] at hj
  rw [elt_take' _ _ _ _ (by omega)]
  exact h j (by omega)
theorem AllM.drop {es : List EntR} (h : AllM es) (k : Nat) : AllM (es.drop k) := fun j hj => by
  rw [List.length_drop] at hj
  rw [elt_drop']
  exact h _ (by omega)
theorem Srt.take {es : List EntR} (h : Srt es) (k : Nat) : Srt (es.take k) := by
  rw [← List.take_append_drop k es] at h
  exact h.parts.1
theorem Srt.drop {es : List EntR} (h : Srt es) (k : Nat) : Srt (es.drop k) := by
  rw [← List.take_append_drop k es] at h
  exact h.parts.2.1
theorem fit_cut {es : List EntR} (h1 : AllM es) (h2 : Srt es) (hne : es ≠ []) : FitK (es.take (cutN es)) := by
  have a := cutN_pos hne
  have b := cutN_few es
  have c := cutN_le es
  exact ⟨by rw [List.length_take]; omega, by rw [List.length_take]; omega, h1.take _, h2.take _⟩
/-- How long a block is. -/
theorem enc_len {es : List EntR} (h : AllM es) (hne : 1 ≤ es.length) : (encK es).length ≤ es.length * 2710 := by
  have h1 := accK_len h es.length (Nat.le_refl _)
  have h2 := stK_len es es.length
  unfold encK
  rw [List.length_append, fix4_len, fixK_len, h2]
  omega
end Go.Proofs.Ytkkclkknpjapcaa
/-! ### TbF -/
namespace Go.Proofs.Ytkkclkknpjapcaa
open Go.RowKit
set_option linter.unusedVariables false
set_option linter.unusedSimpArgs false

def withinB (size a n : Nat) : Bool := decide (a ≤ size ∧ n ≤ size - a ∧ 4 ≤ size - a - n)
def cutS (b : List UInt8) (a n : Nat) : List UInt8 := (b.drop a).take n
def soundB (b : List UInt8) (a n : Nat) : Bool := decide (sumOf (cutS b a n) = readU ((b.drop (a + n)).take 4))
/-- The places of an index. -/
def plcL : Nat → List UInt8 → Nat → Option (List (Nat × Nat))
  | 0, _, _ => none
  | f + 1, xs, size =>
    if xs = [] then some []
    else if (takeB xs 512).2.2 ≠ 0 then none
    else if (takeU (xs.drop (takeB xs 512).2.1)).2.2 ≠ 0 then none
    else if (takeU ((xs.drop (takeB xs 512).2.1).drop (takeU (xs.drop (takeB xs 512).2.1)).2.1)).2.2 ≠ 0 then none
    else if withinB size (takeU (xs.drop (takeB xs 512).2.1)).1 (takeU ((xs.drop (takeB xs 512).2.1).drop (takeU (xs.drop (takeB xs 512).2.1)).2.1)).1 = false then none
    else (plcL f (((xs.drop (takeB xs 512).2.1).drop (takeU (xs.drop (takeB xs 512).2.1)).2.1).drop (takeU ((xs.drop (takeB xs 512).2.1).drop (takeU (xs.drop (takeB xs 512).2.1)).2.1)).2.1) size).map
      (((takeU (xs.drop (takeB xs 512).2.1)).1, (takeU ((xs.drop (takeB xs 512).2.1).drop (takeU (xs.drop (takeB xs 512).2.1)).2.1)).1) :: ·)
/-- The blocks' entries. -/
noncomputable def rdsL : List UInt8 → List (Nat × Nat) → List EntR → Option (List EntR)
  | _, [], acc => some acc
  | b, p :: ps, acc => match decF (cutS b p.1 p.2) with
    | none => none
    | some more => if 4000 < acc.length then some acc else rdsL b ps (acc ++ more)
noncomputable def readT (b : List UInt8) (ps : List (Nat × Nat)) : Option (List EntR) := if ps.all (fun p => soundB b p.1 p.2) = true then rdsL b ps [] else none
noncomputable def fitTB (es : List EntR) : Bool := decide (1 ≤ es.length) && decide (es.length ≤ 4000) && es.all mayE && srtB es && decide ((tabB es).length ≤ 4194304)
theorem fitTB_iff (es : List EntR) : fitTB es = true ↔ FitT es := by
  unfold fitTB FitT
  simp only [Bool.and_eq_true, decide_eq_true_iff, List.all_eq_true]
  constructor
  · rintro ⟨⟨⟨⟨h1, h2⟩, h3⟩, h4⟩, h5⟩
    refine ⟨⟨h1, h2⟩, fun j hj => h3 _ (elt_mem hj), Classical.byContradiction fun hn => ?_, h5⟩
    rw [srtB_false hn] at h4
    cases h4
  · rintro ⟨⟨h1, h2⟩, h3, h4, h5⟩
    refine ⟨⟨⟨⟨h1, h2⟩, fun x hx => ?_⟩, srtB_true h4⟩, h5⟩
    obtain ⟨j, hj, rfl⟩ := List.getElem_of_mem hx
    have := h3 j hj
    rwa [elt_get noEnt hj] at this
def footOf (b : List UInt8) : List UInt8 := b.drop (b.length - 32)
def bodyOf (b : List UInt8) : List UInt8 := b.take (b.length - 32)
def numOf (b : List UInt8) (i : Nat) : Nat := readU (((footOf b).drop (4 * i)).take 4)
/-- What is asked of bytes ahead of their places. -/
def headOK (b : List UInt8) : Bool := decide (32 ≤ b.length) && decide ((footOf b).drop 24 = magicB) && soundB (footOf b) 0 20 && (withinB (bodyOf b).length (numOf b 0) (numOf b 1) && withinB (bodyOf b).length (numOf b 2) (numOf b 3)) && (soundB (bodyOf b) (numOf b 0) (numOf b 1) && soundB (bodyOf b) (numOf b 2) (numOf b 3))
noncomputable def openF (b : List UInt8) : Option (List EntR) :=
  if headOK b = true then
    match plcL (numOf b 1 + 1) (cutS (bodyOf b) (numOf b 0) (numOf b 1)) (numOf b 0) with
    | none => none
    | some ps => match readT (bodyOf b) ps with
      | none => none
      | some es => if fitTB es = true ∧ tabB es = b then some es else none
  else none
theorem openF_some {b : List UInt8} {es : List EntR} (h : openF b = some es) : headOK b = true ∧ (∃ ps, plcL (numOf b 1 + 1) (cutS (bodyOf b) (numOf b 0) (numOf b 1)) (numOf b 0) = some ps ∧ readT (bodyOf b) ps = some es) ∧ FitT es ∧ tabB es = b := by
  unfold openF at h
  split at h
  · rename_i h0
    refine ⟨h0, ?_⟩
    split at h
    · cases h
    · rename_i ps hp
      split at h
      · cases h
      · rename_i es' he
        split at h
        · rename_i hf
          have := Option.some.inj h
          subst this
          exact ⟨⟨ps, hp, he⟩, (fitTB_iff _).1 hf.1, hf.2⟩
        · cases h
  · cases h
/-! ## Cutting what was joined -/
theorem cut_mid (pre x post : List UInt8) : cutS ((pre ++ x) ++ post) pre.length x.length = x := by
  unfold cutS
  rw [List.append_assoc, drop_app, take_app]
theorem read_fix {g : Nat} (h : g < 4294967296) : readU (fixB g 4) = g := by
  have e : fixB g 4 = fixedU g 4 := rfl
  rw [e, fixed_read]
  exact Nat.mod_eq_of_lt h
theorem sound_mid (pre x post : List UInt8) : soundB ((pre ++ sumB x) ++ post) pre.length x.length = true := by
  unfold soundB
  rw [decide_eq_true_iff]
  have h1 : cutS ((pre ++ sumB x) ++ post) pre.length x.length = x := by
    have := cut_mid pre x (fixB (sumOf x) 4 ++ post)
    simpa [sumB, List.append_assoc] using this
  have h2 : (((pre ++ sumB x) ++ post).drop (pre.length + x.length)).take 4 = fixB (sumOf x) 4 := by
    have e : (pre ++ sumB x) ++ post = (pre ++ x) ++ (fixB (sumOf x) 4 ++ post) := by simp [sumB, List.append_assoc]
    rw [e, ← List.length_append, drop_app]
    have hl := fix4_len (sumOf x)
    rw [← hl, take_app]
  rw [h1, h2, read_fix (sumOf_lt x)]
/-! ## The parts of the blocks and of the index -/
def outF : Nat → List EntR → List UInt8
  | 0, _ => []
  | f + 1, es => if es = [] then [] else sumB (encK (es.take (cutN es))) ++ outF f (es.drop (cutN es))
def idxF : Nat → List EntR → Nat → List UInt8
  | 0, _, _ => []
  | f + 1, es, a => if es = [] then [] else idxB (eKey (elt noEnt es (cutN es - 1))) a (encK (es.take (cutN es))).length ++ idxF f (es.drop (cutN es)) (a + (encK (es.take (cutN es))).length + 4)
def plcF : Nat → List EntR → Nat → List (Nat × Nat)
  | 0, _, _ => []
  | f + 1, es, a => if es = [] then [] else (a, (encK (es.take (cutN es))).length) :: plcF f (es.drop (cutN es)) (a + (encK (es.take (cutN es))).length + 4)
theorem blkF_parts : ∀ (f : Nat) (es : List EntR) (out idx : List UInt8), blkF f es out idx = (out ++ outF f es, idx ++ idxF f es out.length) := by
  intro f
  induction f with
  | zero => intro es out idx; simp [blkF, outF, idxF]
  | succ f ih =>
    intro es out idx
    rw [blkF, outF, idxF]
    by_cases he : es = []
    · simp [he]
    · rw [if_neg he, if_neg he, if_neg he, ih, List.append_assoc, List.append_assoc, List.length_append, sumB_len, ← Nat.add_assoc]
theorem blocks_eq (es : List EntR) : blocksB es = outF es.length es := by unfold blocksB; rw [blkF_parts]; simp
theorem index_eq (es : List EntR) : indexB es = idxF es.length es 0 := by unfold indexB; rw [blkF_parts]; simp
theorem drop_cut_len {es : List EntR} {f : Nat} (h : es.length ≤ f + 1) (hne : es ≠ []) : (es.drop (cutN es)).length ≤ f := by
  have := cutN_pos hne
  rw [List.length_drop]
  omega
theorem drop_cut_ne {es : List EntR} (hne : es ≠ []) : (es.drop (cutN es)).length < es.length := by
  have h1 := cutN_pos hne
  have h2 : 0 < es.length := List.length_pos_iff.2 hne
  rw [List.length_drop]
  omega
theorem last_mem {es : List EntR} (h : AllM es) (hne : es ≠ []) : (eKey (elt noEnt es (cutN es - 1))).length ≤ 512 := by
  have h1 := cutN_pos hne
  have h2 := cutN_le es
  exact (mayE_cases (h (cutN es - 1) (by omega))).2.1
theorem cut_enc_len {es : List EntR} (h : AllM es) (hne : es ≠ []) : (encK (es.take (cutN es))).length ≤ cutN es * 2710 := by
  have h1 := cutN_pos hne
  have h2 := cutN_le es
  have h3 := enc_len (h.take (cutN es)) (by rw [List.length_take]; omega)
  rw [List.length_take, Nat.min_eq_left h2] at h3
  exact h3
theorem outF_len : ∀ (f : Nat) (es : List EntR), AllM es → (outF f es).length ≤ es.length * 2714 := by
  intro f
  induction f with
  | zero => intro es _; simp [outF]
  | succ f ih =>
    intro es h
    rw [outF]
    by_cases he : es = []
    · simp [he]
    · rw [if_neg he, List.length_append, sumB_len]
      have h1 := cutN_pos he
      have h2 := cutN_le es
      have h3 := cut_enc_len h he
      have h4 := ih (es.drop (cutN es)) (h.drop _)
      rw [List.length_drop] at h4
      have h5 : (es.length - cutN es) * 2714 + cutN es * 2714 = es.length * 2714 := by rw [← Nat.add_mul]; congr 1; omega
      omega
theorem idxF_len : ∀ (f : Nat) (es : List EntR) (a : Nat), AllM es → (idxF f es a).length ≤ es.length * 542 := by
  intro f
  induction f with
  | zero => intro es a _; simp [idxF]
  | succ f ih =>
    intro es a h
    rw [idxF]
    by_cases he : es = []
    · simp [he]
    · rw [if_neg he, List.length_append]
      have h1 := cutN_pos he
      have h2 := cutN_le es
      have h3 := last_mem h he
      have h4 := ih (es.drop (cutN es)) (a + (encK (es.take (cutN es))).length + 4) (h.drop _)
      rw [List.length_drop] at h4
      have u1 := uvar_len (eKey (elt noEnt es (cutN es - 1))).length
      have u2 := uvar_len a
      have u3 := uvar_len (encK (es.take (cutN es))).length
      have e : (idxB (eKey (elt noEnt es (cutN es - 1))) a (encK (es.take (cutN es))).length).length = (uvar (eKey (elt noEnt es (cutN es - 1))).length).length + (eKey (elt noEnt es (cutN es - 1))).length + (uvar a).length + (uvar (encK (es.take (cutN es))).length).length := by
        unfold idxB
        simp only [List.length_append]
      have h5 : (es.length - cutN es) * 542 + cutN es * 542 = es.length * 542 := by rw [← Nat.add_mul]; congr 1; omega
      omega
/-- The index says the places. -/
theorem plcL_idx : ∀ (f : Nat) (es : List EntR) (a size g : Nat), AllM es → es.length ≤ f → a + (outF f es).length ≤ size → size < 18446744073709551616 → (idxF f es a).length < g → plcL g (idxF f es a) size = some (plcF f es a) := by
  intro f
  induction f with
  | zero =>
    intro es a size g _ hl _ _ hg
    obtain ⟨g, rfl⟩ : ∃ g', g = g' + 1 := ⟨g - 1, by omega⟩
    rw [idxF, plcL, if_pos rfl, plcF]
  | succ f ih =>
    intro es a size g hm hl hs hs64 hg
    obtain ⟨g, rfl⟩ : ∃ g', g = g' + 1 := ⟨g - 1, by omega⟩
    by_cases he : es = []
    · rw [idxF, plcF, if_pos he, if_pos he, plcL, if_pos rfl]
    · have hk := last_mem hm he
      have ho : outF (f + 1) es = sumB (encK (es.take (cutN es))) ++ outF f (es.drop (cutN es)) := by rw [outF, if_neg he]
      have hi : idxF (f + 1) es a = idxB (eKey (elt noEnt es (cutN es - 1))) a (encK (es.take (cutN es))).length ++ idxF f (es.drop (cutN es)) (a + (encK (es.take (cutN es))).length + 4) := by rw [idxF, if_neg he]
      have hp : plcF (f + 1) es a = (a, (encK (es.take (cutN es))).length) :: plcF f (es.drop (cutN es)) (a + (encK (es.take (cutN es))).length + 4) := by rw [plcF, if_neg he]
      rw [ho, List.length_append, sumB_len] at hs
      rw [hi] at hg ⊢
      rw [hp]
      have hih := ih (es.drop (cutN es)) (a + (encK (es.take (cutN es))).length + 4) size g (hm.drop _) (drop_cut_len hl he) (by omega) hs64
      generalize eKey (elt noEnt es (cutN es - 1)) = key at *
      generalize (encK (es.take (cutN es))).length = n at *
      generalize outF f (es.drop (cutN es)) = O at *
      generalize idxF f (es.drop (cutN es)) (a + n + 4) = R at *
      generalize plcF f (es.drop (cutN es)) (a + n + 4) = Q at *
      have hx : idxB key a n ++ R = uvar key.length ++ (key ++ (uvar a ++ (uvar n ++ R))) := by unfold idxB; simp only [List.append_assoc]
      rw [List.length_append] at hg
      have hpos := uvar_pos key.length
      have hil : (idxB key a n).length = (uvar key.length).length + key.length + (uvar a).length + (uvar n).length := by unfold idxB; simp only [List.length_append]
      rw [hx]
      have t1 := takeB_put' key (uvar a ++ (uvar n ++ R)) 512 (by omega) (by omega)
      have hne : uvar key.length ++ (key ++ (uvar a ++ (uvar n ++ R))) ≠ [] := by
        intro e
        have := congrArg List.length e
        rw [List.length_append] at this
        simp only [List.length_nil] at this
        omega
      have d1 : (uvar key.length ++ (key ++ (uvar a ++ (uvar n ++ R)))).drop ((uvar key.length).length + key.length) = uvar a ++ (uvar n ++ R) := by
        rw [← List.append_assoc, ← List.length_append, drop_app]
      have t2 := takeU_uvar (g := a) (by omega) (uvar n ++ R)
      have t3 := takeU_uvar (g := n) (by omega) R
      rw [plcL, if_neg hne]
      simp only [t1, d1, t2, drop_app, t3]
      rw [if_neg (by simp), if_neg (by simp), if_neg (by simp), if_neg (by unfold withinB; simp; omega), hih (by omega)]
      rfl
/-- The blocks are sound, and read. -/
theorem plcF_sound : ∀ (f : Nat) (es : List EntR) (pre post : List UInt8), (plcF f es pre.length).all (fun p => soundB ((pre ++ outF f es) ++ post) p.1 p.2) = true := by
  intro f
  induction f with
  | zero => intro es pre post; rfl
  | succ f ih =>
    intro es pre post
    rw [plcF, outF]
    by_cases he : es = []
    · rw [if_pos he]; rfl
    · rw [if_neg he, if_neg he, List.all_cons, Bool.and_eq_true]
      have e : (pre ++ (sumB (encK (es.take (cutN es))) ++ outF f (es.drop (cutN es)))) ++ post = (pre ++ sumB (encK (es.take (cutN es)))) ++ (outF f (es.drop (cutN es)) ++ post) := by simp only [List.append_assoc]
      refine ⟨?_, ?_⟩
      · rw [e]; exact sound_mid _ _ _
      · have h := ih (es.drop (cutN es)) (pre ++ sumB (encK (es.take (cutN es)))) post
        rw [List.length_append, sumB_len, ← Nat.add_assoc] at h
        have e2 : ((pre ++ sumB (encK (es.take (cutN es)))) ++ outF f (es.drop (cutN es))) ++ post = (pre ++ (sumB (encK (es.take (cutN es))) ++ outF f (es.drop (cutN es)))) ++ post := by simp only [List.append_assoc]
        rw [← e2]
        exact h
theorem rdsL_read : ∀ (f : Nat) (es acc : List EntR) (pre post : List UInt8), AllM es → Srt es → es.length ≤ f → acc.length + es.length ≤ 4000 → rdsL ((pre ++ outF f es) ++ post) (plcF f es pre.length) acc = some (acc ++ es) := by
  intro f
  induction f with
  | zero =>
    intro es acc pre post _ _ hl _
    obtain rfl : es = [] := List.eq_nil_of_length_eq_zero (by omega)
    rw [plcF, rdsL, List.append_nil]
  | succ f ih =>
    intro es acc pre post hm hs hl hn
    by_cases he : es = []
    · subst he
      rw [plcF, if_pos rfl, rdsL, List.append_nil]
    · have hc : cutS ((pre ++ outF (f + 1) es) ++ post) pre.length (encK (es.take (cutN es))).length = encK (es.take (cutN es)) := by
        rw [outF, if_neg he]
        have := cut_mid pre (encK (es.take (cutN es))) (fixB (sumOf (encK (es.take (cutN es)))) 4 ++ (outF f (es.drop (cutN es)) ++ post))
        simpa [sumB, List.append_assoc] using this
      have hd := decF_enc (fit_cut hm hs he)
      have h1 := cutN_pos he
      have h2 := cutN_le es
      rw [plcF, if_neg he, rdsL]
      simp only
      rw [hc, hd]
      simp only
      rw [if_neg (by omega)]
      have h := ih (es.drop (cutN es)) (acc ++ es.take (cutN es)) (pre ++ sumB (encK (es.take (cutN es)))) post (hm.drop _) (hs.drop _) (drop_cut_len hl he) (by rw [List.length_append, List.length_take, List.length_drop]; omega)
      rw [List.length_append, sumB_len, ← Nat.add_assoc, List.append_assoc acc, List.take_append_drop] at h
      rw [outF, if_neg he]
      have e2 : ((pre ++ sumB (encK (es.take (cutN es)))) ++ outF f (es.drop (cutN es))) ++ post = (pre ++ (sumB (encK (es.take (cutN es))) ++ outF f (es.drop (cutN es)))) ++ post := by simp only [List.append_assoc]
      rw [← e2]
      exact h
end Go.Proofs.Ytkkclkknpjapcaa
/-! ### TbB -/
namespace Go.Proofs.Ytkkclkknpjapcaa
open Go.RowKit
set_option linter.unusedVariables false
set_option linter.unusedSimpArgs false

/-- The slice of n entries at A holds es; a slice of it. -/
theorem REnts.slice {w : World} {A : Option Addr} {n : Nat} {es : List EntR} (h : REnts w A n es) {i j : Nat} (hi : i ≤ j) (hj : j ≤ n) {cap : Nat} (hc : n ≤ cap) : REnts w (if cap = i then A else A.map (·.add (i * 5))) (j - i) ((es.drop i).take (j - i)) := by
  have hl := h.1
  have hm := h.2.1
  refine ⟨by simp; omega, by omega, fun hn => ?_⟩
  obtain ⟨ad, rfl, hcell⟩ := h.2.2 (by omega)
  rw [if_neg (by omega)]
  refine ⟨ad.add (i * 5), rfl, fun k hk => ?_⟩
  have := hcell (i + k) (by omega)
  rw [add_of_add, ← Nat.add_mul, elt_take' _ _ _ _ hk, elt_drop']
  exact this
theorem REnts.pre {w : World} {A : Option Addr} {n : Nat} {es : List EntR} (h : REnts w A n es) {j : Nat} (hj : j ≤ n) : REnts w A j (es.take j) := by
  have hl := h.1
  have hm := h.2.1
  refine ⟨by simp; omega, by omega, fun hn => ?_⟩
  obtain ⟨ad, rfl, hcell⟩ := h.2.2 (by omega)
  refine ⟨ad, rfl, fun k hk => ?_⟩
  rw [elt_take' _ _ _ _ hk]
  exact hcell k (by omega)
theorem REnts.suf {w : World} {A : Option Addr} {n : Nat} {es : List EntR} (h : REnts w A n es) {i : Nat} (hi : i ≤ n) {cap : Nat} (hc : n ≤ cap) : REnts w (if cap = i then A else A.map (·.add (i * 5))) (n - i) (es.drop i) := by
  have := h.slice (j := n) hi (Nat.le_refl _) hc
  have hl := h.1
  rwa [List.take_of_length_le (by simp; omega)] at this
theorem cutEn {A : Option Addr} {n c : Nat} (hc : n ≤ c) {lo hi : Nat} (h1 : lo ≤ hi) (h2 : hi ≤ n) (L H : Int) (hL : L = (lo : Int)) (hH : H = (hi : Int)) :
    ∃ A2 c2, (∀ w, (Instr.slice 22 (.slice A n c) (some (.int .i64 L)) (some (.int .i64 H)) none).run Try.prog w = .ok (.slice A2 (hi - lo) c2) w) ∧ (∀ w es, REnts w A n es → REnts w A2 (hi - lo) ((es.drop lo).take (hi - lo))) ∧ hi - lo ≤ c2 := by
  subst hL hH
  refine ⟨if c = lo then A else A.map (·.add (lo * 5)), c - lo, fun w => ?_, fun w xs h => h.slice h1 h2 hc, by omega⟩
  rw [run_slice_lh (P := Try.prog) w 22 A n c elemE .i64 .i64 lo hi (by omega) (by omega) (by omega), sizeE]
  simp [sliced, Result.andThen]
theorem cutEn_lo {A : Option Addr} {n c : Nat} (hc : n ≤ c) {lo : Nat} (h1 : lo ≤ n) (L : Int) (hL : L = (lo : Int)) :
    ∃ A2 c2, (∀ w, (Instr.slice 22 (.slice A n c) (some (.int .i64 L)) none none).run Try.prog w = .ok (.slice A2 (n - lo) c2) w) ∧ (∀ w es, REnts w A n es → REnts w A2 (n - lo) (es.drop lo)) ∧ n - lo ≤ c2 := by
  subst hL
  refine ⟨if c = lo then A else A.map (·.add (lo * 5)), c - lo, fun w => ?_, fun w xs h => h.suf h1 hc, by omega⟩
  rw [run_slice_l (P := Try.prog) w 22 A n c elemE .i64 lo (by omega) (by omega), sizeE]
  simp [sliced, Result.andThen]
theorem cutEn_hi {A : Option Addr} {n c : Nat} (hc : n ≤ c) {hi : Nat} (h1 : hi ≤ n) (H : Int) (hH : H = (hi : Int)) :
    ∃ c2, (∀ w, (Instr.slice 22 (.slice A n c) none (some (.int .i64 H)) none).run Try.prog w = .ok (.slice A hi c2) w) ∧ (∀ w es, REnts w A n es → REnts w A hi (es.take hi)) ∧ hi ≤ c2 := by
  subst hH
  refine ⟨c, fun w => ?_, fun w xs h => h.pre h1, by omega⟩
  rw [run_slice_h (P := Try.prog) w 22 A n c elemE .i64 hi (by omega) (by omega), sizeE]
  cases A <;> simp [sliced, Result.andThen, Addr.add]
set_option maxHeartbeats 8000000 in
set_option maxRecDepth 100000 in
theorem summed_any (A : Option Addr) (n c : Nat) (xs : List UInt8) (w : World) (h : RB w A n xs) (hsz : n + 10 ≤ 140737488355328) :
    Calls Try.prog 38 #[.slice A n c] w fun e w' => ∃ v, e = .returned v ∧ OB w' w.heap.size v (sumB xs) ∧ Below w.heap.size w w' := by
  have hlt := sumOf_lt xs
  obtain ⟨S, hS⟩ : ∃ S, sumOf xs = S := ⟨_, rfl⟩
  have HS : Hid (crcMask (crcMore 0 xs) = S) := hid hS
  have hSB : sumB xs = xs ++ fixB S 4 := by rw [sumB, hS]
  rw [hS] at hlt
  rw [hSB]
  have hw := wrap_u64_nat S (by omega)
  clear hS hSB
  go_enter Try.func38, Try.ntmps38
  go_wp2_with (first
    | (go_at_call 70; (with_reducible refine (sum_any A n c xs _ h).mono ?_); rintro e w1 ⟨rfl, rfl⟩)
    | (go_at_call 69; (with_reducible refine (mask_any _ (crcMore_lt _ _) _).mono ?_); rintro e w2 ⟨rfl, rfl⟩; rw [HS.out])
    | (go_at_call 40; (with_reducible refine (fixed_any A n c xs S 4 _ h (by omega) (by omega) hsz).mono ?_); rintro e w3 ⟨v3, rfl, ho3, hb3⟩))
  go_ret
  exact ⟨_, rfl, ho3, hb3⟩
set_option maxHeartbeats 8000000 in
set_option maxRecDepth 100000 in
theorem cut_any (A : Option Addr) (n c : Nat) (es : List EntR) (w : World) (h : REnts w A n es) (hn : n ≤ 4000) (hlen : ∀ j, j < n → mayE (elt noEnt es j) = true) :
    Calls Try.prog 34 #[.slice A n c] w fun e w' => e = .returned (.int .i64 (cutN es : Nat)) ∧ Below w.heap.size w w' := by
  have hl := h.1
  have H := hid h
  have HM := hid hlen
  have HC : Hid (∀ (W k : Nat), k < n → cutL W (es.drop k) = if 256 ≤ W + wgt (elt noEnt es k) then 1 else cutL (W + wgt (elt noEnt es k)) (es.drop (k + 1)) + 1) := fun W k hk => cutL_step (by omega)
  have HE : Hid (∀ W, cutL W (es.drop n) = 0) := fun W => by rw [List.drop_of_length_le (by omega)]; rfl
  have h0 : cutN es = 0 + cutL 0 (es.drop 0) := by simp [cutN]
  obtain ⟨C, hCe⟩ : ∃ C, cutN es = C := ⟨_, rfl⟩
  have H0 : Hid (C = 0 + cutL 0 (es.drop 0)) := hid (by rw [← hCe]; exact h0)
  rw [hCe]
  clear h hl hlen h0 hCe
  go_enter Try.func34, Try.ntmps34
  go_wp2
  go_loopw [3, 8] (fun t i wr => ∃ k W : Nat, k ≤ n ∧ W ≤ 256 ∧ i = .int .i64 k ∧ t = .int .i64 W ∧ C = k + cutL W (es.drop k) ∧ Below w.heap.size w wr) (fun _ i wr => n - (intOf i).toNat)
  case atStart => exact ⟨0, 0, Nat.zero_le _, Nat.zero_le _, rfl, rfl, H0.out, Below.refl _ _⟩
  case round =>
    obtain ⟨k, W, hk, hW, rfl, rfl, hCk, hB⟩ := hrel
    have HCk := hid hCk
    clear hCk
    by_cases hlt : k < n
    · obtain ⟨ad, rfl, hen⟩ := H.out.at_ hlt
      have hc1 := HC.out W k hlt
      have hmm := mayE_cases (HM.out k hlt)
      have hwg : wgt (elt noEnt es k) = (eKey (elt noEnt es k)).length + (eVal (elt noEnt es k)).length + 16 := rfl
      generalize elt noEnt es k = x at *
      obtain ⟨Ak, nk, ck, Av, nv, cv, a0, a1, a2, a3, a4, a5, a6, a7, a8⟩ := hen.below hB
      have e5 := a5.1
      have e6 := a6.1
      rw [e5, e6] at hwg
      rw [e5, e6] at hmm
      obtain ⟨m1, m2, m3, m4, m5⟩ := hmm
      by_cases hge : 256 ≤ W + wgt x
      · rw [if_pos hge] at hc1
        have HR : Hid (C = k + 1) := hid (by rw [HCk.out, hc1])
        rw [hwg] at hge
        clear hc1 hwg hen a5 a6 e5 e6 m4 m5
        go_wp2
        go_ret
        exact ⟨by rw [HR.out]; rfl, below_alloc' hB _⟩
      · rw [if_neg hge] at hc1
        have HR : Hid (C = (k + 1) + cutL (W + wgt x) (es.drop (k + 1))) := hid (by rw [HCk.out, hc1]; omega)
        rw [hwg] at hge HR
        clear hc1 hwg hen a5 a6 e5 e6 m4 m5
        go_wp2
        go_roundw
        case rel => exact ⟨k + 1, W + (nk + nv + 16), by omega, by omega, by go_num, by go_num, HR.out, below_alloc' hB _⟩
        case measure => simp [intOf]; omega
    · obtain rfl : k = n := by omega
      have HR : Hid (C = k) := hid (by rw [HCk.out, HE.out]; rfl)
      go_wp2
      go_ret
      exact ⟨by rw [HR.out]; rfl, hB⟩
end Go.Proofs.Ytkkclkknpjapcaa
