/- Layer 10: Probes: the walks. -/
import Derived.Test.YtkcfnehfdmlhiaaBlP
import Derived.Test.YtkcfnehfdmlhiaaOI
namespace Go.Proofs.Ytkcfnehfdmlhiaa
open Go.RowKit
set_option linter.unusedVariables false
set_option linter.unusedSimpArgs false

def probesI (h m k : Nat) : List Int := (List.range k).map fun i => (place h m i : Int)
theorem probesI_next (h m k : Nat) : probesI h m k ++ [(place h m k : Int)] = probesI h m (k + 1) := by
  unfold probesI
  rw [List.range_succ, List.map_append]
  rfl
theorem probesI_len (h m k : Nat) : (probesI h m k).length = k := by simp [probesI]
theorem probesI_at {h m k j : Nat} (hj : j < k) : elt 0 (probesI h m k) j = (place h m j : Int) := by
  unfold elt probesI
  simp [hj]
theorem place_lt {h m : Nat} (j : Nat) (hm : 0 < m) : place h m j < m := Nat.mod_lt _ hm
theorem run_index6 {h m k : Nat} (hk : k < 6) (w : World) : (Instr.index 38 (.agg (cells6 h m 6)) (.int .i64 (k : Int))).run Try.prog w = .ok (.int .u64 (place h m k : Int)) w := by
  have hp := cells6_get (h := h) (m := m) (j := 6) hk
  rw [if_pos hk] at hp
  have hu := run_underlying Try.underlying38 w
  have hu2 := run_underlying Try.underlying25 w
  unfold Instr.index
  simp [Sem.run_bind, asIntOf, hu, hk]
  unfold part
  simp [Sem.run_bind, isAgg, hu2, hp]
def probesL (xs : List UInt8) (z : Int) : List Int := if z < 1 then [] else probesI (hashN xs) z.toNat 6

set_option maxHeartbeats 4000000 in
theorem probes_any (A : Option Addr) (n c : Nat) (xs : List UInt8) (z : Int) (w : World) (h : RB w A n xs) (hz : -9223372036854775808 ≤ z ∧ z ≤ 9223372036854775807) :
    Calls Try.prog 8 #[.slice A n c, .int .i64 z] w fun e w' => ∃ v, e = .returned v ∧ OI w' w.heap.size v (probesL xs z) ∧ Below w.heap.size w w' := by
  by_cases h1 : z < 1
  · have e1 : probesL xs z = [] := by unfold probesL; rw [if_pos h1]
    rw [e1]
    go_enter Try.func8, Try.ntmps8
    go_wp2
    go_ret
    exact ⟨_, rfl, OI.nil _ _, Below.refl _ _⟩
  · obtain ⟨m, rfl⟩ : ∃ m : Nat, z = m := ⟨z.toNat, by omega⟩
    have e1 : probesL xs m = probesI (hashN xs) m 6 := by unfold probesL; rw [if_neg h1]; rfl
    have hm0 : 0 < m := by omega
    have hm64 := u64_in m (by omega)
    have hm9 : (m : Int) ≤ 9223372036854775807 := by omega
    rw [e1]
    obtain ⟨H, hH⟩ : ∃ H, H = hashN xs := ⟨_, rfl⟩
    rw [← hH]
    have HH := hid hH
    clear hH e1 h1 hz
    go_enter Try.func8, Try.ntmps8
    go_wp2_with (go_at_call 18; (with_reducible refine (places_any A n c xs m _ h hm0 (by omega)).mono ?_); rintro e w1 ⟨rfl, hb1⟩; rw [← HH.out])
    go_loopw [5, 14] (fun b i wr => ∃ k : Nat, k ≤ 6 ∧ i = .int .i64 k ∧ OI wr w.heap.size b (probesI H m k) ∧ Below w.heap.size w wr) (fun b i wr => 6 - (intOf i).toNat)
    case atStart => exact ⟨0, by omega, rfl, OI.nil _ _, hb1⟩
    case round =>
      clear hb1
      obtain ⟨k, hk, rfl, hown, hB⟩ := hrel
      by_cases hlt : k < 6
      · have hix := run_index6 (h := H) (m := m) hlt wr
        have hpl := place_lt (h := H) k hm0
        obtain ⟨P, hP⟩ : ∃ P, P = place H m k := ⟨_, rfl⟩
        rw [← hP] at hix hpl
        have hP63 : IntKind.i64.wrap (P : Int) = P := IntWalk.i64_in _ (by omega)
        have HPP := hid hP
        clear hP
        go_wp2_with (at_builtin; refine wpI_append1 w wr w.heap.size rfl (.tmp 17) (.tmp 20) rfl _ (probesI H m k) rfl (by exact hown) P 1 _ rfl rfl (by rw [probesI_len]; omega) hB hB.size ?_; intro v1 w1 hown1 hB1)
        go_roundw
        case rel => exact ⟨k + 1, by omega, by go_num, by rw [HPP.out, probesI_next] at hown1; exact hown1, hB1⟩
        case measure => simp [intOf]; omega
      · obtain rfl : k = 6 := by omega
        go_wp2
        go_ret
        exact ⟨_, rfl, hown, hB⟩
theorem or1_even {y : Nat} (h : y % 2 = 0) (hy : y < 18446744073709551616) : bits .or .u64 (y : Int) 1 = ((y + 1 : Nat) : Int) := by
  have e : bits .or .u64 (y : Int) ((1 : Nat) : Int) = ((y ||| 1 : Nat) : Int) := by
    have hx : y ||| 1 < 2 ^ 64 := Nat.or_lt_two_pow (by omega) (by omega)
    show IntKind.u64.wrap ((BitVec.ofInt 64 (y : Int) ||| BitVec.ofInt 64 ((1 : Nat) : Int)).toNat : Int) = _
    rw [BitVec.toNat_or, ofInt_u64 y (by omega), ofInt_u64 1 (by omega)]
    exact u64_in _ (by omega)
  have e2 : y ||| 1 = y + 1 := by
    have := Nat.two_pow_add_eq_or_of_lt (i := 1) (b := 1) (by omega) (y / 2)
    rw [show 2 ^ 1 * (y / 2) = y from by omega] at this
    exact this.symm
  rw [e2] at e
  exact e
set_option maxHeartbeats 4000000 in
theorem refprobes_any (A : Option Addr) (n c : Nat) (xs : List UInt8) (z : Int) (w : World) (h : RB w A n xs) (hz : -9223372036854775808 ≤ z ∧ z ≤ 9223372036854775807) :
    Calls Try.prog 9 #[.slice A n c, .int .i64 z] w fun e w' => ∃ v, e = .returned v ∧ OI w' w.heap.size v (probesL xs z) ∧ Below w.heap.size w w' := by
  by_cases h1 : z < 1
  · have e1 : probesL xs z = [] := by unfold probesL; rw [if_pos h1]
    rw [e1]
    go_enter Try.func9, Try.ntmps9
    go_wp2
    go_ret
    exact ⟨_, rfl, OI.nil _ _, Below.refl _ _⟩
  · obtain ⟨m, rfl⟩ : ∃ m : Nat, z = m := ⟨z.toNat, by omega⟩
    have e1 : probesL xs m = probesI (hashN xs) m 6 := by unfold probesL; rw [if_neg h1]; rfl
    have hm0 : 0 < m := by omega
    have hm64 := u64_in m (by omega)
    have hm9 : (m : Int) ≤ 9223372036854775807 := by omega
    rw [e1]
    have hh := hashN_lt xs
    obtain ⟨H, hH⟩ : ∃ H, H = hashN xs := ⟨_, rfl⟩
    rw [← hH] at hh ⊢
    have HH := hid hH
    clear hH e1 h1 hz
    obtain ⟨Y, hY, hY2⟩ : ∃ Y : Nat, (H : Int) / 8589934592 * 2 = (Y : Int) ∧ Y + 1 = stepN H := ⟨H / 8589934592 * 2, by rw [Int.natCast_mul, Int.natCast_ediv]; rfl, rfl⟩
    have hYor := or1_even (y := Y) (by unfold stepN at hY2; omega) (by unfold stepN at hY2; omega)
    rw [hY2] at hYor
    clear hY2
    go_enter Try.func9, Try.ntmps9
    go_wp2_with (go_at_call 11; (with_reducible refine (refhash_any A n c xs _ h).mono ?_); rintro e w1 ⟨rfl, rfl⟩; rw [← HH.out])
    go_loopw [6, 12] (fun b i wr => ∃ k : Nat, k ≤ 6 ∧ i = .int .u64 k ∧ OI wr w.heap.size b (probesI H m k) ∧ Below w.heap.size w wr) (fun b i wr => 6 - (intOf i).toNat)
    case atStart => exact ⟨0, by omega, rfl, OI.nil _ _, Below.refl _ _⟩
    case round =>
      obtain ⟨k, hk, rfl, hown, hB⟩ := hrel
      by_cases hlt : k < 6
      · have hpl := place_lt (h := H) k hm0
        have hpe : (IntKind.u64.wrap ((H : Int) + IntKind.u64.wrap ((k : Int) * (stepN H : Int)))).tmod (m : Int) = (place H m k : Int) := by
          rw [Int.tmod_eq_emod_of_nonneg (by rw [IntKind.wrap_u64]; omega)]
          unfold place
          rw [Int.natCast_emod, IntKind.wrap_u64, IntKind.wrap_u64]
          unfold hAt
          rw [← Int.natCast_mul]
          generalize k * stepN H = t
          congr 1
          omega
        obtain ⟨P, hP⟩ : ∃ P, P = place H m k := ⟨_, rfl⟩
        rw [← hP] at hpe hpl
        have hP63 : IntKind.i64.wrap (P : Int) = P := IntWalk.i64_in _ (by omega)
        have HPP := hid hP
        clear hP
        go_wp2_with (at_builtin; refine wpI_append1 w wr w.heap.size rfl (.tmp 15) (.tmp 28) rfl _ (probesI H m k) rfl (by exact hown) P 1 _ rfl rfl (by rw [probesI_len]; omega) hB hB.size ?_; intro v1 w1 hown1 hB1)
        go_roundw
        case rel => exact ⟨k + 1, by omega, by go_num, by rw [HPP.out, probesI_next] at hown1; exact hown1, hB1⟩
        case measure => simp [intOf]; omega
      · obtain rfl : k = 6 := by omega
        go_wp2
        go_ret
        exact ⟨_, rfl, hown, hB⟩
end Go.Proofs.Ytkcfnehfdmlhiaa
