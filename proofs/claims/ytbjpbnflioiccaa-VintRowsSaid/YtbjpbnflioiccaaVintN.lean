/- Layer 2: the protocol's lengths: contracts of Length. -/
import Derived.Test.YtbjpbnflioiccaaVintM
namespace Go.Proofs.Ytbjpbnflioiccaa
open Go.RowKit
set_option linter.unusedVariables false
set_option linter.unusedSimpArgs false

def lenB (z : Int) : List UInt8 := if z < 0 ∨ 268435455 < z then [] else uvar z.toNat
def lenE (z : Int) : Int := if z < 0 ∨ 268435455 < z then 1 else 0
theorem length_any (z : Int) (w : World) (hm : -9223372036854775808 ≤ z ∧ z ≤ 9223372036854775807) :
    Calls Try.prog 28 #[.int .i64 z] w fun e w' => ∃ v, e = .returned (.tuple #[v, .int .i64 (lenE z)]) ∧ OB w' w.heap.size v (lenB z) ∧ Below w.heap.size w w' := by
  obtain ⟨m1, m2⟩ := hm
  by_cases h0 : z < 0
  · have e1 : lenB z = [] := by simp [lenB, h0]
    have e2 : lenE z = 1 := by simp [lenE, h0]
    rw [e1, e2]
    go_enter Try.func28, Try.ntmps28
    go_wp2
    go_ret2
    exact ⟨_, rfl, OB.nil _ _, Below.refl _ _⟩
  by_cases h1 : 268435455 < z
  · have e1 : lenB z = [] := by simp [lenB, h1]
    have e2 : lenE z = 1 := by simp [lenE, h1]
    rw [e1, e2]
    go_enter Try.func28, Try.ntmps28
    go_wp2
    go_ret2
    exact ⟨_, rfl, OB.nil _ _, Below.refl _ _⟩
  · have e1 : lenB z = uvar z.toNat := by simp [lenB, h0, h1]
    have e2 : lenE z = 0 := by simp [lenE, h0, h1]
    rw [e1, e2]
    obtain ⟨g, rfl⟩ : ∃ g : Nat, z = g := ⟨z.toNat, by omega⟩
    have q : IntKind.u64.wrap (g : Int) = g := by rw [IntKind.wrap_u64]; omega
    go_enter Try.func28, Try.ntmps28
    go_wp2_with (go_at_call 13; (with_reducible refine (put_any none 0 0 [] g _ ((OB.nil _ 0).rb.1) (by omega) (by omega)).mono ?_); rintro e w' ⟨v, rfl, hown, hb⟩)
    go_ret2
    exact ⟨_, rfl, by simpa using hown, hb⟩
theorem reflength_any (z : Int) (w : World) (hm : -9223372036854775808 ≤ z ∧ z ≤ 9223372036854775807) :
    Calls Try.prog 29 #[.int .i64 z] w fun e w' => ∃ v, e = .returned (.tuple #[v, .int .i64 (lenE z)]) ∧ OB w' w.heap.size v (lenB z) ∧ Below w.heap.size w w' := by
  obtain ⟨m1, m2⟩ := hm
  by_cases h0 : z < 0
  · have e1 : lenB z = [] := by simp [lenB, h0]
    have e2 : lenE z = 1 := by simp [lenE, h0]
    rw [e1, e2]
    go_enter Try.func29, Try.ntmps29
    go_wp2
    go_ret2
    exact ⟨_, rfl, OB.nil _ _, Below.refl _ _⟩
  by_cases h1 : 268435455 < z
  · have e1 : lenB z = [] := by simp [lenB, h1]
    have e2 : lenE z = 1 := by simp [lenE, h1]
    rw [e1, e2]
    go_enter Try.func29, Try.ntmps29
    go_wp2
    go_ret2
    exact ⟨_, rfl, OB.nil _ _, Below.refl _ _⟩
  · have e1 : lenB z = uvar z.toNat := by simp [lenB, h0, h1]
    have e2 : lenE z = 0 := by simp [lenE, h0, h1]
    rw [e1, e2]
    obtain ⟨g, rfl⟩ : ∃ g : Nat, z = g := ⟨z.toNat, by omega⟩
    have q : IntKind.u64.wrap (g : Int) = g := by rw [IntKind.wrap_u64]; omega
    go_enter Try.func29, Try.ntmps29
    go_wp2_with (go_at_call 14; (with_reducible refine (refput_any _ w.heap.size [] g _ (OB.nil _ _) (Nat.le_refl _) (by omega) (by simp)).mono ?_); rintro e w' ⟨v, rfl, hown, hgr, hat⟩)
    go_ret2
    exact ⟨_, rfl, by simpa using hown, (Below.refl _ _).grown hgr (Nat.le_refl _) (by simp [Value.ownBlock])⟩
end Go.Proofs.Ytbjpbnflioiccaa
