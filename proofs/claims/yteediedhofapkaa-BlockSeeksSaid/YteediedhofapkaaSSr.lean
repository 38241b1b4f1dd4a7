/- sort.Search with a function that makes memory of its own at most. -/
import Derived.Test.YteediedhofapkaaCmp
import Derived.Shelf.Abstract
namespace Go.Proofs.Yteediedhofapkaa
open Go.RowKit
set_option linter.unusedVariables false
set_option linter.unusedSimpArgs false

/-- What sort.Search finds: the first place at which p holds. -/
def SrC (w w' : World) (n : Nat) (p : Nat → Bool) (e : Ending) : Prop := ∃ m : Nat, e = .returned (.int .i64 (m : Int)) ∧ m ≤ n ∧ (∀ t, t < m → p t = false) ∧ (∀ t, m ≤ t → t < n → p t = true) ∧ Below w.heap.size w w'
set_option maxHeartbeats 8000000 in
set_option maxRecDepth 100000 in
theorem search_any (g : Nat) (cb : Array Value) (n : Nat) (p : Nat → Bool) (w : World) (eg : ∀ args u, (callFunc g args).run Try.prog u = .ok (.enter g args) u) (hsz : n < 4611686018427387904)
    (hf : ∀ (i : Nat) (u : World), Below w.heap.size w u → i < n → Calls Try.prog g (#[.int .i64 i] ++ cb) u fun e w' => e = .returned (.bool (p i)) ∧ Below u.heap.size u w')
    (hmono : ∀ a b, a ≤ b → b < n → p a = true → p b = true) :
    Calls Try.prog 30 #[.int .i64 n, .func (.func g) #[] cb] w fun e w' => SrC w w' n p e := by
  have HF := hid hf
  have HM := hid hmono
  clear hf hmono
  go_enter Try.func30, Try.ntmps30
  go_wp2
  go_loopw [5, 6] (fun a b wr => ∃ lo hi : Nat, a = .int .i64 lo ∧ b = .int .i64 hi ∧ lo ≤ hi ∧ hi ≤ n ∧ (∀ t, t < lo → p t = false) ∧ (∀ t, hi ≤ t → t < n → p t = true) ∧ Below w.heap.size w wr) (fun a b wr => (intOf b).toNat - (intOf a).toNat)
  case atStart => exact ⟨0, n, rfl, rfl, Nat.zero_le _, Nat.le_refl _, fun t ht => absurd ht (Nat.not_lt_zero _), fun t h1 h2 => by omega, Below.refl _ _⟩
  case round =>
    obtain ⟨lo, hi, rfl, rfl, hlh, hin, hlow, hhigh, hB⟩ := hrel
    have HLo := hid hlow
    have HHi := hid hhigh
    clear hlow hhigh
    by_cases hlt : lo < hi
    · have hc := HF.out ((lo + hi) / 2) wr hB (by omega)
      rw [show (((lo + hi) / 2 : Nat) : Int) = ((lo : Int) + (hi : Int)) / 2 by omega] at hc
      cases hp : p ((lo + hi) / 2) <;> rw [hp] at hc
      · have HP := hid hp
        clear hp
        go_wp2_with (go_at_fn g; refine hc.mono ?_; rintro e w' ⟨rfl, hb⟩)
        go_roundw
        case rel =>
          refine ⟨(lo + hi) / 2 + 1, hi, by rw [show ((lo : Int) + (hi : Int)) / 2 + 1 = (((lo + hi) / 2 + 1 : Nat) : Int) by omega], rfl, by omega, hin, fun t ht => ?_, HHi.out, below_then hB hb⟩
          cases h : p t with
          | false => rfl
          | true => have := HM.out t ((lo + hi) / 2) (by omega) (by omega) h; rw [HP.out] at this; cases this
        case measure => simp [intOf]; omega
      · have HP := hid hp
        clear hp
        go_wp2_with (go_at_fn g; refine hc.mono ?_; rintro e w' ⟨rfl, hb⟩)
        go_roundw
        case rel =>
          exact ⟨lo, (lo + hi) / 2, rfl, by rw [show ((lo : Int) + (hi : Int)) / 2 = (((lo + hi) / 2 : Nat) : Int) by omega], by omega, by omega, HLo.out, fun t ht htn => HM.out ((lo + hi) / 2) t ht htn HP.out, below_then hB hb⟩
        case measure => simp [intOf]; omega
    · obtain rfl : hi = lo := by omega
      go_wp2
      go_ret
      exact ⟨hi, rfl, hin, HLo.out, HHi.out, hB⟩
end Go.Proofs.Yteediedhofapkaa
