/- Layer 9: heights. -/
import Derived.Test.YtlfjbklagljdlaaDoorMmM
namespace Go.Proofs.YtlfjbklagljdlaaDoor
open Go.RowKit
set_option linter.unusedVariables false
set_option linter.unusedSimpArgs false

/-- The table that math/bits reads: bytes. -/
def TabOK (w : World) : Prop := ∀ i : Nat, i < 64 → ∃ z : Nat, w.cell? ⟨0, i, none⟩ = some (.int .u8 (z : Int)) ∧ z < 256
theorem TabOK.below {w w' : World} (h : TabOK w) (hb : Below w.heap.size w w') : TabOK w' := fun i hi => by
  obtain ⟨z, h1, h2⟩ := h i hi
  exact ⟨z, below_cell hb h1, h2⟩
set_option maxHeartbeats 8000000 in
theorem zeros_any (x : Nat) (w : World) (h : TabOK w) (hx : 0 < x) (hx2 : x < 18446744073709551616) :
    Calls Tryd.prog 42 #[.int .u64 (x : Int)] w fun e w' => (∃ z : Nat, e = .returned (.int .i64 (z : Int)) ∧ z < 256) ∧ w = w' := by
  have hz : ((x : Int) == 0) = false := by rw [beq_eq_false_iff_ne]; omega
  have hE : ∀ y : Int, 0 ≤ IntKind.u64.wrap y / 288230376151711744 ∧ IntKind.u64.wrap y / 288230376151711744 < 64 := fun y => by rw [IntKind.wrap_u64]; omega
  have hb := hE (bits BinOp.and IntKind.u64 (x : Int) (IntKind.u64.wrap (-(x : Int))) * 285870213051353865)
  obtain ⟨z, hcell, hz2⟩ := h (IntKind.u64.wrap (bits BinOp.and IntKind.u64 (x : Int) (IntKind.u64.wrap (-(x : Int))) * 285870213051353865) / 288230376151711744).toNat (by omega)
  have hw : IntKind.i64.wrap (z : Int) = (z : Int) := by rw [IntKind.wrap_i64]; omega
  clear hE h
  go_enter Tryd.func42, Tryd.ntmps42
  go_wp2
  go_ret
  exact ⟨⟨z, rfl, hz2⟩, rfl⟩
theorem u64_in (a : Nat) (h : a < 18446744073709551616) : IntKind.u64.wrap (a : Int) = a := by rw [IntKind.wrap_u64]; omega
theorem ofInt_u64 (a : Nat) (h : a < 18446744073709551616) : (BitVec.ofInt 64 (a : Int)).toNat = a := by
  rw [BitVec.toNat_ofInt]
  omega
theorem u64_xor_nat (a b : Nat) (ha : a < 18446744073709551616) (hb : b < 18446744073709551616) : bits .xor .u64 (a : Int) (b : Int) = ((a ^^^ b : Nat) : Int) := by
  have hx : a ^^^ b < 2 ^ 64 := Nat.xor_lt_two_pow (by omega) (by omega)
  show IntKind.u64.wrap ((BitVec.ofInt 64 (a : Int) ^^^ BitVec.ofInt 64 (b : Int)).toNat : Int) = _
  rw [BitVec.toNat_xor, ofInt_u64 a (by omega), ofInt_u64 b (by omega)]
  exact u64_in _ (by omega)
theorem u64_or_nat (a b : Nat) (ha : a < 18446744073709551616) (hb : b < 18446744073709551616) : bits .or .u64 (a : Int) (b : Int) = ((a ||| b : Nat) : Int) := by
  have hx : a ||| b < 2 ^ 64 := Nat.or_lt_two_pow (by omega) (by omega)
  show IntKind.u64.wrap ((BitVec.ofInt 64 (a : Int) ||| BitVec.ofInt 64 (b : Int)).toNat : Int) = _
  rw [BitVec.toNat_or, ofInt_u64 a (by omega), ofInt_u64 b (by omega)]
  exact u64_in _ (by omega)
/-- Between 1 and 8. -/
def HtC (e : Ending) : Prop := ∃ h : Nat, e = .returned (.int .i64 (h : Int)) ∧ 1 ≤ h ∧ h ≤ 8
set_option maxHeartbeats 16000000 in
set_option maxRecDepth 100000 in
theorem height_any (Ak : Option Addr) (nk ck : Nat) (key : List UInt8) (s : Int) (g : Bool) (u : Int) (Av : Option Addr) (nv cv : Nat) (w : World) (hk : RB w Ak nk key) (hT : TabOK w) (hs : -9223372036854775808 ≤ s ∧ s ≤ 9223372036854775807) :
    Calls Tryd.prog 37 #[.agg #[.slice Ak nk ck, .int .i64 s, .bool g, .int .i64 u, .slice Av nv cv]] w fun e w' => HtC e ∧ Below w.heap.size w w' := by
  have hmx := hk.2.1
  have HB := hid (below_alloc' (Below.refl w.heap.size w) (.cells #[.slice Ak nk ck, .int .i64 s, .bool g, .int .i64 u, .slice Av nv cv] 28))
  have HK := hid (hk.alloc (.cells #[.slice Ak nk ck, .int .i64 s, .bool g, .int .i64 u, .slice Av nv cv] 28))
  have HT := hid (hT.below HB.out)
  clear hk hT
  have hU : ∀ y : Int, ∃ v : Nat, IntKind.u64.wrap y = (v : Int) ∧ v < 18446744073709551616 := fun y => ⟨(IntKind.u64.wrap y).toNat, by rw [IntKind.wrap_u64]; omega, by rw [IntKind.wrap_u64]; omega⟩
  have HU := hid hU
  clear hU
  go_enter Tryd.func37, Tryd.ntmps37
  go_wp2
  generalize w.alloc (.cells #[.slice Ak nk ck, .int .i64 s, .bool g, .int .i64 u, .slice Av nv cv] 28) = W0 at *
  go_loopw [3, 13] (fun hv i wr => ∃ k v : Nat, k ≤ nk ∧ i = .int .i64 k ∧ hv = .int .u64 (v : Int) ∧ v < 18446744073709551616 ∧ wr = W0) (fun hv i wr => nk - (intOf i).toNat)
  case atStart => exact ⟨0, _, Nat.zero_le _, rfl, congrArg (Value.int IntKind.u64) (HU.out _).choose_spec.1, (HU.out _).choose_spec.2, rfl⟩
  case round =>
    obtain ⟨k, v, hk, rfl, rfl, hv, rfl⟩ := hrel
    by_cases hlt : k < nk
    · obtain ⟨ad, rfl, hc⟩ := HK.out.at_ hlt
      have hby := bAt_lt key k
      have hcv := wrap_u64_nat (bAt key k) (by omega)
      have hxr := u64_xor_nat v (bAt key k) hv (by omega)
      obtain ⟨v2, e1, e2⟩ := HU.out (((v ^^^ bAt key k : Nat) : Int) * 1099511628211)
      go_wp2
      go_roundw
      case rel => exact ⟨k + 1, v2, by omega, by go_num, rfl, e2, by trivial⟩
      case measure => simp [intOf]; omega
    · obtain rfl : k = nk := by omega
      obtain ⟨d, hdiv, hsh⟩ : ∃ d : Nat, (v : Int) / 536870912 = (d : Int) ∧ d < 18446744073709551616 := ⟨v / 536870912, by omega, by omega⟩
      have hxr := u64_xor_nat v d hv hsh
      have hx64 : v ^^^ d < 2 ^ 64 := Nat.xor_lt_two_pow (by omega) (by omega)
      obtain ⟨y, hy⟩ : ∃ y, v ^^^ d = y := ⟨_, rfl⟩
      rw [hy] at hxr hx64
      have hor := u64_or_nat y 65536 (by omega) (by omega)
      have ho64 : y ||| 65536 < 2 ^ 64 := Nat.or_lt_two_pow (by omega) (by omega)
      have hop : 65536 ≤ y ||| 65536 := Nat.right_le_or
      obtain ⟨q, hq⟩ : ∃ q, y ||| 65536 = q := ⟨_, rfl⟩
      rw [hq] at hor ho64 hop
      have hor2 : bits .or .u64 (y : Int) 65536 = (q : Int) := hor
      clear hy hq hor
      go_wp2_with (go_at_call 42; (with_reducible refine (zeros_any q _ HT.out (by omega) (by omega)).mono ?_); rintro e w1 ⟨⟨z, rfl, hz⟩, rfl⟩)
      · go_ret
        exact ⟨⟨1 + z / 2, by simp, by omega, by omega⟩, HB.out⟩
      · go_ret
        exact ⟨⟨8, rfl, by omega, by omega⟩, HB.out⟩
end Go.Proofs.YtlfjbklagljdlaaDoor
