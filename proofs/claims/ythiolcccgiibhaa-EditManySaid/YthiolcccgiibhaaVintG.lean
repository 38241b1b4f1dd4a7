/- What the functions of layer 2 answer: the document's Read; Fixed. -/
import Derived.Test.YthiolcccgiibhaaVintF
namespace Go.Proofs.Ythiolcccgiibhaa
open Go.RowKit
set_option linter.unusedVariables false
set_option linter.unusedSimpArgs false

theorem shr_byte (g i : Nat) : ((g : Int) / 2 ^ (8 * i)) % 256 = ((UInt8.ofNat (g / 256 ^ i)).toNat : Int) := by
  have e : (2 : Int) ^ (8 * i) = ((256 ^ i : Nat) : Int) := by
    rw [Int.pow_mul, Int.natCast_pow]
    rfl
  rw [UInt8.toNat_ofNat', e, ← Int.natCast_ediv]
  omega
end Go.Proofs.Ythiolcccgiibhaa
