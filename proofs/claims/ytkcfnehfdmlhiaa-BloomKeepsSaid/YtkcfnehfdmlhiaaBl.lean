/- Layer 10: hashes and places, in plain terms; the walk of the hash. -/
import Derived.Test.YtkcfnehfdmlhiaaB
namespace Go.Proofs.Ytkcfnehfdmlhiaa
open Go.RowKit
set_option linter.unusedVariables false
set_option linter.unusedSimpArgs false

def hStep (h x : Nat) : Nat := (h ^^^ x) * 1099511628211 % 18446744073709551616
def hashN (xs : List UInt8) : Nat := xs.foldl (fun h x => hStep h x.toNat) 14695981039346656037
theorem hStep_lt (h x : Nat) : hStep h x < 18446744073709551616 := by unfold hStep; exact Nat.mod_lt _ (by decide)
theorem foldH_lt (l : List UInt8) : ∀ a : Nat, a < 18446744073709551616 → l.foldl (fun h x => hStep h x.toNat) a < 18446744073709551616 := by
  induction l with
  | nil => intro a h; exact h
  | cons x l ih => intro a _; rw [List.foldl_cons]; exact ih _ (hStep_lt _ _)
theorem hashN_lt (xs : List UInt8) : hashN xs < 18446744073709551616 := by
  unfold hashN
  exact foldH_lt xs _ (by decide)
theorem hashN_snoc (xs : List UInt8) (x : UInt8) : hashN (xs ++ [x]) = hStep (hashN xs) x.toNat := by
  unfold hashN
  rw [List.foldl_append, List.foldl_cons, List.foldl_nil]
theorem u64_in (a : Nat) (h : a < 18446744073709551616) : IntKind.u64.wrap (a : Int) = a := by rw [IntKind.wrap_u64]; omega
theorem ofInt_u64 (a : Nat) (h : a < 18446744073709551616) : (BitVec.ofInt 64 (a : Int)).toNat = a := by
  rw [BitVec.toNat_ofInt]
  omega
theorem u64_xor_nat (a b : Nat) (ha : a < 18446744073709551616) (hb : b < 18446744073709551616) : bits .xor .u64 (a : Int) (b : Int) = ((a ^^^ b : Nat) : Int) := by
  have hx : a ^^^ b < 2 ^ 64 := Nat.xor_lt_two_pow (by omega) (by omega)
  show IntKind.u64.wrap ((BitVec.ofInt 64 (a : Int) ^^^ BitVec.ofInt 64 (b : Int)).toNat : Int) = _
  rw [BitVec.toNat_xor, ofInt_u64 a (by omega), ofInt_u64 b (by omega)]
  exact u64_in _ (by omega)
theorem ret_u64 {a b : Int} (h : a = b) : Ending.returned (.int .u64 a) = .returned (.int .u64 b) := by rw [h]
theorem h_step {h x : Nat} (hh : h < 18446744073709551616) (hx : x < 256) : ∃ y : Nat, bits .xor .u64 (h : Int) (x : Int) = (y : Int) ∧ IntKind.u64.wrap ((y : Int) * 1099511628211) = (hStep h x : Int) := by
  refine ⟨h ^^^ x, u64_xor_nat h x hh (by omega), ?_⟩
  rw [IntKind.wrap_u64]
  unfold hStep
  omega

theorem hash_any (A : Option Addr) (n c : Nat) (xs : List UInt8) (w : World) (h : RB w A n xs) :
    Calls Try.prog 10 #[.slice A n c] w fun e w' => e = .returned (.int .u64 (hashN xs : Nat)) ∧ w = w' := by
  have hl := h.len
  have hm := h.max
  go_enter Try.func10, Try.ntmps10
  go_wp2
  go_loop [3, 8] (fun t i => ∃ k : Nat, k ≤ n ∧ i = .int .i64 k ∧ t = .int .u64 (hashN (xs.take k) : Nat)) (fun _ i => n - (intOf i).toNat)
  case atStart => exact ⟨0, Nat.zero_le _, rfl, rfl⟩
  case round =>
    obtain ⟨k, hk, rfl, rfl⟩ := hrel
    have hf := hashN_lt (xs.take k)
    by_cases hlt : k < n
    · obtain ⟨ad, rfl, hc⟩ := h.at_ hlt
      have hb := bAt_lt xs k
      obtain ⟨y, hx, hm2⟩ := h_step hf hb
      have hb8 := u64_in (bAt xs k) (by omega)
      have HS := hid (show hStep (hashN (xs.take k)) (bAt xs k) = hashN (xs.take (k + 1)) by rw [List.take_succ_eq_append_getElem (by omega), hashN_snoc, bAt_get (by omega)])
      rw [HS.out] at hm2
      go_wp2
      go_round
      case rel => exact ⟨k + 1, by omega, by go_num, rfl⟩
      case measure => simp [intOf]; omega
    · go_wp2
      go_ret
      refine ⟨ret_u64 ?_, rfl⟩
      rw [List.take_of_length_le (by omega)]
theorem refhash_any (A : Option Addr) (n c : Nat) (xs : List UInt8) (w : World) (h : RB w A n xs) :
    Calls Try.prog 11 #[.slice A n c] w fun e w' => e = .returned (.int .u64 (hashN xs : Nat)) ∧ w = w' := by
  have hl := h.len
  have hm := h.max
  go_enter Try.func11, Try.ntmps11
  go_wp2
  go_loop [3, 8] (fun t i => ∃ k : Nat, k ≤ n ∧ i = .int .i64 k ∧ t = .int .u64 (hashN (xs.take k) : Nat)) (fun _ i => n - (intOf i).toNat)
  case atStart => exact ⟨0, Nat.zero_le _, rfl, rfl⟩
  case round =>
    obtain ⟨k, hk, rfl, rfl⟩ := hrel
    have hf := hashN_lt (xs.take k)
    by_cases hlt : k < n
    · obtain ⟨ad, rfl, hc⟩ := h.at_ hlt
      have hb := bAt_lt xs k
      obtain ⟨y, hx, hm2⟩ := h_step hf hb
      have hb8 := u64_in (bAt xs k) (by omega)
      have HS := hid (show hStep (hashN (xs.take k)) (bAt xs k) = hashN (xs.take (k + 1)) by rw [List.take_succ_eq_append_getElem (by omega), hashN_snoc, bAt_get (by omega)])
      rw [HS.out] at hm2
      go_wp2
      go_round
      case rel => exact ⟨k + 1, by omega, by go_num, rfl⟩
      case measure => simp [intOf]; omega
    · go_wp2
      go_ret
      refine ⟨ret_u64 ?_, rfl⟩
      rw [List.take_of_length_le (by omega)]
theorem known_hash : hashN [] = 14695981039346656037 := rfl
theorem awake_any (w : World) : Calls Try.prog 12 #[] w fun e w' => e = .returned (.bool true) ∧ w = w' := by
  have hk := hash_any none 0 0 [] w (RB.nil w)
  rw [known_hash] at hk
  have HK := hid hk
  clear hk
  go_enter Try.func12, Try.ntmps12
  go_wp2_with (go_at_call 10; refine (HK.out).mono ?_; rintro e w' ⟨rfl, rfl⟩)
  go_ret
  exact ⟨rfl, rfl⟩
end Go.Proofs.Ytkcfnehfdmlhiaa
