/- Shared texts, part S21: TbB, TbH. -/
import Derived.Deep.Cut
import Derived.Test.YtkkclkknpjapcaaDoorS20
import Derived.Test.YtkkclkknpjapcaaDoorS13
/-! ### TbB -/
namespace Go.Proofs.YtkkclkknpjapcaaDoor
open Go.RowKit
set_option linter.unusedVariables false
set_option linter.unusedSimpArgs false

/-- The slice of n entries at A holds es; a slice of it. -/
theorem REnts.slice {w : World} {A : Option Addr} {n : Nat} {es : List EntR} (h : REnts w A n es) {i j : Nat} (hi : i ≤ j) (hj : j ≤ n) {cap : Nat} (hc : n ≤ cap) : REnts w (if cap = i then A else A.map (·.add (i * 5))) (j - i) ((es.drop i).take (j - i)) := by
  have hl := h.1
  have hm := h.2.1
  refine ⟨by simp; omega, by omega, fun hn => ?_⟩
  obtain ⟨ad, rfl, hcell⟩ := h.2.2 (by omega)
  rw [if_neg (by omega)]
  refine ⟨ad.add (i * 5), rfl, fun k hk => ?_⟩
  have := hcell (i + k) (by omega)
  rw [add_of_add, ← Nat.add_mul, elt_take' _ _ _ _ hk, elt_drop']
  exact this
theorem REnts.pre {w : World} {A : Option Addr} {n : Nat} {es : List EntR} (h : REnts w A n es) {j : Nat} (hj : j ≤ n) : REnts w A j (es.take j) := by
  have hl := h.1
  have hm := h.2.1
  refine ⟨by simp; omega, by omega, fun hn => ?_⟩
  obtain ⟨ad, rfl, hcell⟩ := h.2.2 (by omega)
  refine ⟨ad, rfl, fun k hk => ?_⟩
  rw [elt_take' _ _ _ _ hk]
  exact hcell k (by omega)
theorem REnts.suf {w : World} {A : Option Addr} {n : Nat} {es : List EntR} (h : REnts w A n es) {i : Nat} (hi : i ≤ n) {cap : Nat} (hc : n ≤ cap) : REnts w (if cap = i then A else A.map (·.add (i * 5))) (n - i) (es.drop i) := by
  have := h.slice (j := n) hi (Nat.le_refl _) hc
  have hl := h.1
  rwa [List.take_of_length_le (by simp; omega)] at this
theorem cutEn {A : Option Addr} {n c : Nat} (hc : n ≤ c) {lo hi : Nat} (h1 : lo ≤ hi) (h2 : hi ≤ n) (L H : Int) (hL : L = (lo : Int)) (hH : H = (hi : Int)) :
    ∃ A2 c2, (∀ w, (Instr.slice 22 (.slice A n c) (some (.int .i64 L)) (some (.int .i64 H)) none).run Tryd.prog w = .ok (.slice A2 (hi - lo) c2) w) ∧ (∀ w es, REnts w A n es → REnts w A2 (hi - lo) ((es.drop lo).take (hi - lo))) ∧ hi - lo ≤ c2 := by
  subst hL hH
  refine ⟨if c = lo then A else A.map (·.add (lo * 5)), c - lo, fun w => ?_, fun w xs h => h.slice h1 h2 hc, by omega⟩
  rw [run_slice_lh (P := Tryd.prog) w 22 A n c elemE .i64 .i64 lo hi (by omega) (by omega) (by omega), sizeE]
  simp [sliced, Result.andThen]
theorem cutEn_lo {A : Option Addr} {n c : Nat} (hc : n ≤ c) {lo : Nat} (h1 : lo ≤ n) (L : Int) (hL : L = (lo : Int)) :
    ∃ A2 c2, (∀ w, (Instr.slice 22 (.slice A n c) (some (.int .i64 L)) none none).run Tryd.prog w = .ok (.slice A2 (n - lo) c2) w) ∧ (∀ w es, REnts w A n es → REnts w A2 (n - lo) (es.drop lo)) ∧ n - lo ≤ c2 := by
  subst hL
  refine ⟨if c = lo then A else A.map (·.add (lo * 5)), c - lo, fun w => ?_, fun w xs h => h.suf h1 hc, by omega⟩
  rw [run_slice_l (P := Tryd.prog) w 22 A n c elemE .i64 lo (by omega) (by omega), sizeE]
  simp [sliced, Result.andThen]
theorem cutEn_hi {A : Option Addr} {n c : Nat} (hc : n ≤ c) {hi : Nat} (h1 : hi ≤ n) (H : Int) (hH : H = (hi : Int)) :
    ∃ c2, (∀ w, (Instr.slice 22 (.slice A n c) none (some (.int .i64 H)) none).run Tryd.prog w = .ok (.slice A hi c2) w) ∧ (∀ w es, REnts w A n es → REnts w A hi (es.take hi)) ∧ hi ≤ c2 := by
  subst hH
  refine ⟨c, fun w => ?_, fun w xs h => h.pre h1, by omega⟩
  rw [run_slice_h (P := Tryd.prog) w 22 A n c elemE .i64 hi (by omega) (by omega), sizeE]
  cases A <;> simp [sliced, Result.andThen, Addr.add]
set_option maxHeartbeats 8000000 in
set_option maxRecDepth 100000 in
theorem summed_any (A : Option Addr) (n c : Nat) (xs : List UInt8) (w : World) (h : RB w A n xs) (hsz : n + 10 ≤ 140737488355328) :
    Calls Tryd.prog 32 #[.slice A n c] w fun e w' => ∃ v, e = .returned v ∧ OB w' w.heap.size v (sumB xs) ∧ Below w.heap.size w w' := by
  have hlt := sumOf_lt xs
  obtain ⟨S, hS⟩ : ∃ S, sumOf xs = S := ⟨_, rfl⟩
  have HS : Hid (crcMask (crcMore 0 xs) = S) := hid hS
  have hSB : sumB xs = xs ++ fixB S 4 := by rw [sumB, hS]
  rw [hS] at hlt
  rw [hSB]
  have hw := wrap_u64_nat S (by omega)
  clear hS hSB
  go_enter Tryd.func32, Tryd.ntmps32
  go_wp2_with (first
    | (go_at_call 52; (with_reducible refine (sum_any A n c xs _ h).mono ?_); rintro e w1 ⟨rfl, rfl⟩)
    | (go_at_call 51; (with_reducible refine (mask_any _ (crcMore_lt _ _) _).mono ?_); rintro e w2 ⟨rfl, rfl⟩; rw [HS.out])
    | (go_at_call 34; (with_reducible refine (fixed_any A n c xs S 4 _ h (by omega) (by omega) hsz).mono ?_); rintro e w3 ⟨v3, rfl, ho3, hb3⟩))
  go_ret
  exact ⟨_, rfl, ho3, hb3⟩
set_option maxHeartbeats 8000000 in
set_option maxRecDepth 100000 in
theorem cut_any (A : Option Addr) (n c : Nat) (es : List EntR) (w : World) (h : REnts w A n es) (hn : n ≤ 4000) (hlen : ∀ j, j < n → mayE (elt noEnt es j) = true) :
    Calls Tryd.prog 28 #[.slice A n c] w fun e w' => e = .returned (.int .i64 (cutN es : Nat)) ∧ Below w.heap.size w w' := by
  have hl := h.1
  have H := hid h
  have HM := hid hlen
  have HC : Hid (∀ (W k : Nat), k < n → cutL W (es.drop k) = if 256 ≤ W + wgt (elt noEnt es k) then 1 else cutL (W + wgt (elt noEnt es k)) (es.drop (k + 1)) + 1) := fun W k hk => cutL_step (by omega)
  have HE : Hid (∀ W, cutL W (es.drop n) = 0) := fun W => by rw [List.drop_of_length_le (by omega)]; rfl
  have h0 : cutN es = 0 + cutL 0 (es.drop 0) := by simp [cutN]
  obtain ⟨C, hCe⟩ : ∃ C, cutN es = C := ⟨_, rfl⟩
  have H0 : Hid (C = 0 + cutL 0 (es.drop 0)) := hid (by rw [← hCe]; exact h0)
  rw [hCe]
  clear h hl hlen h0 hCe
  go_enter Tryd.func28, Tryd.ntmps28
  go_wp2
  go_loopw [3, 8] (fun t i wr => ∃ k W : Nat, k ≤ n ∧ W ≤ 256 ∧ i = .int .i64 k ∧ t = .int .i64 W ∧ C = k + cutL W (es.drop k) ∧ Below w.heap.size w wr) (fun _ i wr => n - (intOf i).toNat)
  case atStart => exact ⟨0, 0, Nat.zero_le _, Nat.zero_le _, rfl, rfl, H0.out, Below.refl _ _⟩
  case round =>
    obtain ⟨k, W, hk, hW, rfl, rfl, hCk, hB⟩ := hrel
    have HCk := hid hCk
    clear hCk
    by_cases hlt : k < n
    · obtain ⟨ad, rfl, hen⟩ := H.out.at_ hlt
      have hc1 := HC.out W k hlt
      have hmm := mayE_cases (HM.out k hlt)
      have hwg : wgt (elt noEnt es k) = (eKey (elt noEnt es k)).length + (eVal (elt noEnt es k)).length + 16 := rfl
      generalize elt noEnt es k = x at *
      obtain ⟨Ak, nk, ck, Av, nv, cv, a0, a1, a2, a3, a4, a5, a6, a7, a8⟩ := hen.below hB
      have e5 := a5.1
      have e6 := a6.1
      rw [e5, e6] at hwg
      rw [e5, e6] at hmm
      obtain ⟨m1, m2, m3, m4, m5⟩ := hmm
      by_cases hge : 256 ≤ W + wgt x
      · rw [if_pos hge] at hc1
        have HR : Hid (C = k + 1) := hid (by rw [HCk.out, hc1])
        rw [hwg] at hge
        clear hc1 hwg hen a5 a6 e5 e6 m4 m5
        go_wp2
        go_ret
        exact ⟨by rw [HR.out]; rfl, below_alloc' hB _⟩
      · rw [if_neg hge] at hc1
        have HR : Hid (C = (k + 1) + cutL (W + wgt x) (es.drop (k + 1))) := hid (by rw [HCk.out, hc1]; omega)
        rw [hwg] at hge HR
        clear hc1 hwg hen a5 a6 e5 e6 m4 m5
        go_wp2
        go_roundw
        case rel => exact ⟨k + 1, W + (nk + nv + 16), by omega, by omega, by go_num, by go_num, HR.out, below_alloc' hB _⟩
        case measure => simp [intOf]; omega
    · obtain rfl : k = n := by omega
      have HR : Hid (C = k) := hid (by rw [HCk.out, HE.out]; rfl)
      go_wp2
      go_ret
      exact ⟨by rw [HR.out]; rfl, hB⟩
end Go.Proofs.YtkkclkknpjapcaaDoor
/-! ### TbH -/
namespace Go.Proofs.YtkkclkknpjapcaaDoor
open Go.RowKit
set_option linter.unusedVariables false
set_option linter.unusedSimpArgs false

theorem cutBu {A : Option Addr} {n c : Nat} (hc : n ≤ c) {lo hi : Nat} (h1 : lo ≤ hi) (h2 : hi ≤ n) (L H : Int) (hL : L = (lo : Int)) (hH : H = (hi : Int)) :
    ∃ A2 c2, (∀ w, (Instr.slice 23 (.slice A n c) (some (.int .u64 L)) (some (.int .u64 H)) none).run Tryd.prog w = .ok (.slice A2 (hi - lo) c2) w) ∧ (∀ w xs, RB w A n xs → RB w A2 (hi - lo) ((xs.drop lo).take (hi - lo))) ∧ hi - lo ≤ c2 := by
  subst hL hH
  refine ⟨if c = lo then A else A.map (·.add lo), c - lo, fun w => ?_, fun w xs h => h.slice h1 h2 hc, by omega⟩
  rw [run_slice_lh (P := Tryd.prog) w 23 A n c elemB .u64 .u64 lo hi (by omega) (by omega) (by omega), sizeB]
  simp [sliced, Result.andThen]
theorem cutBu_lo {A : Option Addr} {n c : Nat} (hc : n ≤ c) {lo : Nat} (h1 : lo ≤ n) (L : Int) (hL : L = (lo : Int)) :
    ∃ A2 c2, (∀ w, (Instr.slice 23 (.slice A n c) (some (.int .u64 L)) none none).run Tryd.prog w = .ok (.slice A2 (n - lo) c2) w) ∧ (∀ w xs, RB w A n xs → RB w A2 (n - lo) (xs.drop lo)) ∧ n - lo ≤ c2 := by
  subst hL
  refine ⟨if c = lo then A else A.map (·.add lo), c - lo, fun w => ?_, fun w xs h => h.suf h1 hc, by omega⟩
  rw [run_slice_l (P := Tryd.prog) w 23 A n c elemB .u64 lo (by omega) (by omega), sizeB]
  simp [sliced, Result.andThen]
theorem cutBu_hi {A : Option Addr} {n c : Nat} (hc : n ≤ c) {hi : Nat} (h1 : hi ≤ n) (H : Int) (hH : H = (hi : Int)) :
    ∃ c2, (∀ w, (Instr.slice 23 (.slice A n c) none (some (.int .u64 H)) none).run Tryd.prog w = .ok (.slice A hi c2) w) ∧ (∀ w xs, RB w A n xs → RB w A hi (xs.take hi)) ∧ hi ≤ c2 := by
  subst hH
  refine ⟨c, fun w => ?_, fun w xs h => h.pre h1, by omega⟩
  rw [run_slice_h (P := Tryd.prog) w 23 A n c elemB .u64 hi (by omega) (by omega), sizeB]
  cases A <;> simp [sliced, Result.andThen, Addr.add]
set_option maxHeartbeats 8000000 in
set_option maxRecDepth 100000 in
theorem within_any (A : Option Addr) (n c : Nat) (a m : Nat) (w : World) (hn : n ≤ 9223372036854775807) (ha : a < 18446744073709551616) (hm : m < 18446744073709551616) :
    Calls Tryd.prog 37 #[.slice A n c, .int .u64 (a : Int), .int .u64 (m : Int)] w fun e w' => e = .returned (.bool (withinB n a m)) ∧ w = w' := by
  have hw1 := wrap_u64_nat n (by omega)
  go_enter Tryd.func37, Tryd.ntmps37
  go_wp2
  all_goals go_ret
  all_goals refine ⟨ret_bool ?_, rfl⟩
  all_goals unfold withinB
  all_goals first | (rw [eq_comm, decide_eq_true_iff]; omega) | (rw [eq_comm, decide_eq_false_iff_not]; omega) | (rw [decide_eq_decide]; omega)
theorem withinB_le {n a m : Nat} (h : withinB n a m = true) : a + m + 4 ≤ n := by unfold withinB at h; rw [decide_eq_true_iff] at h; omega
theorem readB_4 {xs : List UInt8} (h : 4 ≤ xs.length) : readB xs 4 = (readU (xs.take 4), 0) := by
  unfold readB
  rw [if_neg (by omega), if_neg (by omega)]
  rfl
theorem readU_take4 (xs : List UInt8) : readU (xs.take 4) < 4294967296 := by
  have h := readU_lt (xs.take 4)
  have hl : (xs.take 4).length ≤ 4 := by rw [List.length_take]; omega
  exact Nat.lt_of_lt_of_le h (Nat.le_trans (Nat.pow_le_pow_right (by omega) hl) (by decide))
/-- What piece answers: the bytes' slice, and whether they are sound. -/
def PcC (w w' : World) (xs : List UInt8) (a m : Nat) (r : Ending) : Prop := ∃ A2 c2, r = .returned (.tuple #[.slice A2 m c2, .bool (soundB xs a m)]) ∧ RB w A2 m (cutS xs a m) ∧ m ≤ c2 ∧ w = w'
set_option maxHeartbeats 8000000 in
set_option maxRecDepth 100000 in
theorem piece_any (A : Option Addr) (n c : Nat) (xs : List UInt8) (a m : Nat) (w : World) (h : RB w A n xs) (hc : n ≤ c) (hin : a + m + 4 ≤ n) (hsz : n ≤ 100000000000) :
    Calls Tryd.prog 35 #[.slice A n c, .int .u64 (a : Int), .int .u64 (m : Int)] w fun e w' => PcC w w' xs a m e := by
  have hl := h.1
  obtain ⟨Q, hQ⟩ : ∃ Q : Nat, a + m = Q := ⟨_, rfl⟩
  have hQi : (a : Int) + (m : Int) = (Q : Int) := by omega
  have hwq := wrap_u64_nat Q (by omega)
  obtain ⟨A2, c2, hcut, hrb, hc2⟩ := cutBu (A := A) hc (lo := a) (hi := Q) (by omega) (by omega) (a : Int) (Q : Int) rfl rfl
  rw [show Q - a = m by omega] at hcut hrb hc2
  obtain ⟨A3, c3, hcut3, hrb3, hc3⟩ := cutBu_lo (A := A) hc (lo := Q) (by omega) (Q : Int) rfl
  have HR2 : Hid (RB w A2 m (cutS xs a m)) := hid (hrb _ _ h)
  have hrd := hrb3 _ _ h
  have HRd := hid (read_any A3 (n - Q) c3 (xs.drop Q) 4 w hrd hc3 (by omega))
  rw [readB_4 (by rw [List.length_drop]; omega)] at HRd
  have hR32 := readU_take4 (xs.drop Q)
  obtain ⟨S, hS⟩ : ∃ S, sumOf (cutS xs a m) = S := ⟨_, rfl⟩
  have hS32 := sumOf_lt (cutS xs a m)
  rw [hS] at hS32
  have HS : Hid (crcMask (crcMore 0 (cutS xs a m)) = S) := hid hS
  obtain ⟨R, hR⟩ : ∃ R, readU ((xs.drop Q).take 4) = R := ⟨_, rfl⟩
  rw [hR] at HRd hR32
  have hw := wrap_u64_nat S (by omega)
  have HB : Hid (soundB xs a m = decide (S = R)) := hid (by unfold soundB; rw [hS, hQ, hR])
  clear hrb hrb3 hrd hS hR hQ h hl
  by_cases he : S = R
  · have hd : ((S : Int) == (R : Int)) = true := by rw [beq_iff_eq]; omega
    have HB2 : Hid (soundB xs a m = true) := hid (by rw [HB.out]; exact decide_eq_true he)
    clear he HB
    go_enter Tryd.func35, Tryd.ntmps35
    go_wp2_with (first
      | (go_at_call 36; refine (HRd.out).mono ?_; rintro e w1 ⟨rfl, rfl⟩)
      | (go_at_call 52; (with_reducible refine (sum_any A2 m c2 (cutS xs a m) _ HR2.out).mono ?_); rintro e w2 ⟨rfl, rfl⟩)
      | (go_at_call 51; (with_reducible refine (mask_any _ (crcMore_lt _ _) _).mono ?_); rintro e w2 ⟨rfl, rfl⟩; rw [HS.out]))
    go_ret2
    exact ⟨A2, c2, by rw [HB2.out]; rfl, HR2.out, hc2, rfl⟩
  · have hd : ((S : Int) == (R : Int)) = false := by rw [beq_eq_false_iff_ne]; omega
    have HB2 : Hid (soundB xs a m = false) := hid (by rw [HB.out]; exact decide_eq_false he)
    clear he HB
    go_enter Tryd.func35, Tryd.ntmps35
    go_wp2_with (first
      | (go_at_call 36; refine (HRd.out).mono ?_; rintro e w1 ⟨rfl, rfl⟩)
      | (go_at_call 52; (with_reducible refine (sum_any A2 m c2 (cutS xs a m) _ HR2.out).mono ?_); rintro e w2 ⟨rfl, rfl⟩)
      | (go_at_call 51; (with_reducible refine (mask_any _ (crcMore_lt _ _) _).mono ?_); rintro e w2 ⟨rfl, rfl⟩; rw [HS.out]))
    go_ret2
    exact ⟨A2, c2, by rw [HB2.out]; rfl, HR2.out, hc2, rfl⟩
end Go.Proofs.YtkkclkknpjapcaaDoor
