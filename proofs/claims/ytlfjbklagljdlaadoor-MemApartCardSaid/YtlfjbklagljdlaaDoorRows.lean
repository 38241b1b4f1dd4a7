/-
  NARROWER THAN 'FOR EVERY INPUT', by the rows' own cells (each row's printed sentence says how): MemGets: laid · MemCuts: laid · MemApart: laid · MemTurned: laid · MemAdds: laid · MemLists: laid · MemLatest: laid · MemNil: laid.
  DERIVED. THE GIVEN ROWS OF THIS SEAT. 8 by the template 'for every input the law returns true; each argument reads behind the call as it read before'; 0 by the template 'total and deterministic' (their statements: YtlfjbklagljdlaaDoorTotals.lean).
  GIVEN WITH THE SEED: the statements are not yours to turn. If you find one false, say at which input.
  Laid BY PROGRAM, IN A SANDBOX (cutbox-rows.mjs): the forced cells as the released guide's own fill.sh prints them over the translation ce8cb8a736f943c8… (all of the seat's roots in one cut). By AI agents, Wed Nov 11 2026. No macro, syntax, notation, axiom, sorry.
-/
import Derived.Test.YtlfjbklagljdlaaDoorChecked
import GoSem.Claim
import GoSem.ClaimJoined
import GoSem.ClaimMapViews
import Derived.JoinedTies
import Derived.KernelRfl
namespace Go.Proofs.YtlfjbklagljdlaaDoor
/- THE CELL 'sum', in the pinned program and in every row, IS THE sha256 OF THE DUMP (.gsa) THAT YtlfjbklagljdlaaDoorProg.lean LOADS. Nothing in Lean hashes anything: it is a label: what it is worth is what the hold of that sum in a sandbox is worth. -/
noncomputable def Tryd.pinned : Pinned := { name := "ytlfjbklagljdlaadoor", sum := "ce8cb8a736f943c827d8fccdc6cde95dfc84bdd138b0e73e15ac4e74fc6c3e40", checked := Tryd.checked }
namespace Rows
def none {H : Type} : Left H := { results := [], args := [] }

/- WHAT THE LISTED PACKAGE-LEVEL VARIABLES READ AS WHEN THE CALL BEGINS. Each datum BY PROGRAM (the guide's laid-datum.mjs) off the statement by which the dump's own 'gosem.cut.vars' lays the variable. In a bare row this is a premise. The card (YtlfjbklagljdlaaDoorCards.lean) ties it to the program's text. -/
def laid_math_bits_deBruijn64tab {H : Type} : DataW H := .agg [.lit (.int .u8 0), .lit (.int .u8 1), .lit (.int .u8 56), .lit (.int .u8 2), .lit (.int .u8 57), .lit (.int .u8 49), .lit (.int .u8 28), .lit (.int .u8 3), .lit (.int .u8 61), .lit (.int .u8 58), .lit (.int .u8 42), .lit (.int .u8 50), .lit (.int .u8 38), .lit (.int .u8 29), .lit (.int .u8 17), .lit (.int .u8 4), .lit (.int .u8 62), .lit (.int .u8 47), .lit (.int .u8 59), .lit (.int .u8 36), .lit (.int .u8 45), .lit (.int .u8 43), .lit (.int .u8 51), .lit (.int .u8 22), .lit (.int .u8 53), .lit (.int .u8 39), .lit (.int .u8 33), .lit (.int .u8 30), .lit (.int .u8 24), .lit (.int .u8 18), .lit (.int .u8 12), .lit (.int .u8 5), .lit (.int .u8 63), .lit (.int .u8 55), .lit (.int .u8 48), .lit (.int .u8 27), .lit (.int .u8 60), .lit (.int .u8 41), .lit (.int .u8 37), .lit (.int .u8 16), .lit (.int .u8 46), .lit (.int .u8 35), .lit (.int .u8 44), .lit (.int .u8 21), .lit (.int .u8 52), .lit (.int .u8 32), .lit (.int .u8 23), .lit (.int .u8 11), .lit (.int .u8 54), .lit (.int .u8 26), .lit (.int .u8 40), .lit (.int .u8 15), .lit (.int .u8 34), .lit (.int .u8 20), .lit (.int .u8 31), .lit (.int .u8 10), .lit (.int .u8 25), .lit (.int .u8 14), .lit (.int .u8 19), .lit (.int .u8 9), .lit (.int .u8 13), .lit (.int .u8 8), .lit (.int .u8 7), .lit (.int .u8 6)]

/-- 'halyardlaw9.MemGets': WHATEVER THE INPUT: true; the input reads as it did. -/
def memGetsSpec : ChangeSpec := { name := "memGets", fn := fun _ => fun
  | [d1, d2, d3] => { results := [.lit (.bool true)], args := [d1, d2, d3] }
  | _ => none }
def memGetsRow : OpenClaim := { program := "ytlfjbklagljdlaadoor", sum := "ce8cb8a736f943c827d8fccdc6cde95dfc84bdd138b0e73e15ac4e74fc6c3e40", func := "halyard/halyardlaw9.MemGets", spec := "memGets", inPlace := ["internal/bytealg.Compare"], named := ["math/bits.deBruijn64tab"], apart := false, laid := [("math/bits.deBruijn64tab", laid_math_bits_deBruijn64tab)] }
def MemGetsSaid : Prop := memGetsRow.holds Tryd.pinned (OpenSpec.ofChange memGetsSpec)

/-- ITS FALSE NEIGHBOUR: 'it returns false'. Refute it at one input. -/
def memGetsWrong : ChangeSpec := { name := "memGets", fn := fun _ => fun
  | [d1, d2, d3] => { results := [.lit (.bool false)], args := [d1, d2, d3] }
  | _ => none }
def MemGetsWrongFalsely : Prop := memGetsRow.holds Tryd.pinned (OpenSpec.ofChange memGetsWrong)

/-- 'halyardlaw9.MemCuts': WHATEVER THE INPUT: true; the input reads as it did. -/
def memCutsSpec : ChangeSpec := { name := "memCuts", fn := fun _ => fun
  | [d1, d2, d3] => { results := [.lit (.bool true)], args := [d1, d2, d3] }
  | _ => none }
def memCutsRow : OpenClaim := { program := "ytlfjbklagljdlaadoor", sum := "ce8cb8a736f943c827d8fccdc6cde95dfc84bdd138b0e73e15ac4e74fc6c3e40", func := "halyard/halyardlaw9.MemCuts", spec := "memCuts", inPlace := ["internal/bytealg.Compare"], named := ["math/bits.deBruijn64tab"], apart := false, laid := [("math/bits.deBruijn64tab", laid_math_bits_deBruijn64tab)] }
def MemCutsSaid : Prop := memCutsRow.holds Tryd.pinned (OpenSpec.ofChange memCutsSpec)

/-- ITS FALSE NEIGHBOUR: 'it returns false'. Refute it at one input. -/
def memCutsWrong : ChangeSpec := { name := "memCuts", fn := fun _ => fun
  | [d1, d2, d3] => { results := [.lit (.bool false)], args := [d1, d2, d3] }
  | _ => none }
def MemCutsWrongFalsely : Prop := memCutsRow.holds Tryd.pinned (OpenSpec.ofChange memCutsWrong)

/-- 'halyardlaw9.MemApart': WHATEVER THE INPUT: true; the input reads as it did. -/
def memApartSpec : ChangeSpec := { name := "memApart", fn := fun _ => fun
  | [d] => { results := [.lit (.bool true)], args := [d] }
  | _ => none }
def memApartRow : OpenClaim := { program := "ytlfjbklagljdlaadoor", sum := "ce8cb8a736f943c827d8fccdc6cde95dfc84bdd138b0e73e15ac4e74fc6c3e40", func := "halyard/halyardlaw9.MemApart", spec := "memApart", inPlace := ["internal/bytealg.Compare"], named := ["math/bits.deBruijn64tab"], apart := false, laid := [("math/bits.deBruijn64tab", laid_math_bits_deBruijn64tab)] }
def MemApartSaid : Prop := memApartRow.holds Tryd.pinned (OpenSpec.ofChange memApartSpec)

/-- ITS FALSE NEIGHBOUR: 'it returns false'. Refute it at one input. -/
def memApartWrong : ChangeSpec := { name := "memApart", fn := fun _ => fun
  | [d] => { results := [.lit (.bool false)], args := [d] }
  | _ => none }
def MemApartWrongFalsely : Prop := memApartRow.holds Tryd.pinned (OpenSpec.ofChange memApartWrong)

/-- 'halyardlaw9.MemTurned': WHATEVER THE INPUT: true; the input reads as it did. -/
def memTurnedSpec : ChangeSpec := { name := "memTurned", fn := fun _ => fun
  | [d] => { results := [.lit (.bool true)], args := [d] }
  | _ => none }
def memTurnedRow : OpenClaim := { program := "ytlfjbklagljdlaadoor", sum := "ce8cb8a736f943c827d8fccdc6cde95dfc84bdd138b0e73e15ac4e74fc6c3e40", func := "halyard/halyardlaw9.MemTurned", spec := "memTurned", inPlace := ["internal/bytealg.Compare"], named := ["math/bits.deBruijn64tab"], apart := false, laid := [("math/bits.deBruijn64tab", laid_math_bits_deBruijn64tab)] }
def MemTurnedSaid : Prop := memTurnedRow.holds Tryd.pinned (OpenSpec.ofChange memTurnedSpec)

/-- ITS FALSE NEIGHBOUR: 'it returns false'. Refute it at one input. -/
def memTurnedWrong : ChangeSpec := { name := "memTurned", fn := fun _ => fun
  | [d] => { results := [.lit (.bool false)], args := [d] }
  | _ => none }
def MemTurnedWrongFalsely : Prop := memTurnedRow.holds Tryd.pinned (OpenSpec.ofChange memTurnedWrong)

/-- 'halyardlaw9.MemAdds': WHATEVER THE INPUT: true; the input reads as it did. -/
def memAddsSpec : ChangeSpec := { name := "memAdds", fn := fun _ => fun
  | [d] => { results := [.lit (.bool true)], args := [d] }
  | _ => none }
def memAddsRow : OpenClaim := { program := "ytlfjbklagljdlaadoor", sum := "ce8cb8a736f943c827d8fccdc6cde95dfc84bdd138b0e73e15ac4e74fc6c3e40", func := "halyard/halyardlaw9.MemAdds", spec := "memAdds", inPlace := ["internal/bytealg.Compare"], named := ["math/bits.deBruijn64tab"], apart := false, laid := [("math/bits.deBruijn64tab", laid_math_bits_deBruijn64tab)] }
def MemAddsSaid : Prop := memAddsRow.holds Tryd.pinned (OpenSpec.ofChange memAddsSpec)

/-- ITS FALSE NEIGHBOUR: 'it returns false'. Refute it at one input. -/
def memAddsWrong : ChangeSpec := { name := "memAdds", fn := fun _ => fun
  | [d] => { results := [.lit (.bool false)], args := [d] }
  | _ => none }
def MemAddsWrongFalsely : Prop := memAddsRow.holds Tryd.pinned (OpenSpec.ofChange memAddsWrong)

/-- 'halyardlaw9.MemLists': WHATEVER THE INPUT: true; the input reads as it did. -/
def memListsSpec : ChangeSpec := { name := "memLists", fn := fun _ => fun
  | [d1, d2, d3, d4] => { results := [.lit (.bool true)], args := [d1, d2, d3, d4] }
  | _ => none }
def memListsRow : OpenClaim := { program := "ytlfjbklagljdlaadoor", sum := "ce8cb8a736f943c827d8fccdc6cde95dfc84bdd138b0e73e15ac4e74fc6c3e40", func := "halyard/halyardlaw9.MemLists", spec := "memLists", inPlace := ["internal/bytealg.Compare"], named := ["math/bits.deBruijn64tab"], apart := false, laid := [("math/bits.deBruijn64tab", laid_math_bits_deBruijn64tab)] }
def MemListsSaid : Prop := memListsRow.holds Tryd.pinned (OpenSpec.ofChange memListsSpec)

/-- ITS FALSE NEIGHBOUR: 'it returns false'. Refute it at one input. -/
def memListsWrong : ChangeSpec := { name := "memLists", fn := fun _ => fun
  | [d1, d2, d3, d4] => { results := [.lit (.bool false)], args := [d1, d2, d3, d4] }
  | _ => none }
def MemListsWrongFalsely : Prop := memListsRow.holds Tryd.pinned (OpenSpec.ofChange memListsWrong)

/-- 'halyardlaw9.MemLatest': WHATEVER THE INPUT: true; the input reads as it did. -/
def memLatestSpec : ChangeSpec := { name := "memLatest", fn := fun _ => fun
  | [d1, d2] => { results := [.lit (.bool true)], args := [d1, d2] }
  | _ => none }
def memLatestRow : OpenClaim := { program := "ytlfjbklagljdlaadoor", sum := "ce8cb8a736f943c827d8fccdc6cde95dfc84bdd138b0e73e15ac4e74fc6c3e40", func := "halyard/halyardlaw9.MemLatest", spec := "memLatest", inPlace := ["internal/bytealg.Compare"], named := ["math/bits.deBruijn64tab"], apart := false, laid := [("math/bits.deBruijn64tab", laid_math_bits_deBruijn64tab)] }
def MemLatestSaid : Prop := memLatestRow.holds Tryd.pinned (OpenSpec.ofChange memLatestSpec)

/-- ITS FALSE NEIGHBOUR: 'it returns false'. Refute it at one input. -/
def memLatestWrong : ChangeSpec := { name := "memLatest", fn := fun _ => fun
  | [d1, d2] => { results := [.lit (.bool false)], args := [d1, d2] }
  | _ => none }
def MemLatestWrongFalsely : Prop := memLatestRow.holds Tryd.pinned (OpenSpec.ofChange memLatestWrong)

/-- 'halyardlaw9.MemNil': WHATEVER THE INPUT: true; the input reads as it did. -/
def memNilSpec : ChangeSpec := { name := "memNil", fn := fun _ => fun
  | [d1, d2] => { results := [.lit (.bool true)], args := [d1, d2] }
  | _ => none }
def memNilRow : OpenClaim := { program := "ytlfjbklagljdlaadoor", sum := "ce8cb8a736f943c827d8fccdc6cde95dfc84bdd138b0e73e15ac4e74fc6c3e40", func := "halyard/halyardlaw9.MemNil", spec := "memNil", inPlace := ["internal/bytealg.Compare"], named := ["math/bits.deBruijn64tab"], apart := false, laid := [("math/bits.deBruijn64tab", laid_math_bits_deBruijn64tab)] }
def MemNilSaid : Prop := memNilRow.holds Tryd.pinned (OpenSpec.ofChange memNilSpec)

/-- ITS FALSE NEIGHBOUR: 'it returns false'. Refute it at one input. -/
def memNilWrong : ChangeSpec := { name := "memNil", fn := fun _ => fun
  | [d1, d2] => { results := [.lit (.bool false)], args := [d1, d2] }
  | _ => none }
def MemNilWrongFalsely : Prop := memNilRow.holds Tryd.pinned (OpenSpec.ofChange memNilWrong)

/- THE SECOND FORM. 'bulk': how many values and letters a reading holds, each counted each time it is reached (what is shared counts as often as it is met; a slice's spare places count too). A statement '..UptoSaid' is the law's where the arguments, and the package variables that the reading takes, are together of bulk at most 1048576: NARROWER than '..Said'. Prove '..Said' where nothing that the law and all that it calls make is longer than what came in: it says more and counts as full. Else prove '..UptoSaid'. A law counts once. -/
mutual
def uptoBulk {H : Type} : DataW H → Nat
  | .lit (.string bytes) => bytes.length + 1
  | .lit _ => 1
  | .nil => 1
  | .ptr d => uptoBulk d + 1
  | .slice elems spare => uptoBulkAll elems + uptoBulkAll spare + 1
  | .agg parts => uptoBulkAll parts + 1
  | .iface _ d => uptoBulk d + 1
  | .map entries => uptoBulkEntries entries + 1
  | .held _ => 1
def uptoBulkAll {H : Type} : List (DataW H) → Nat
  | [] => 0
  | d :: r => uptoBulk d + uptoBulkAll r
def uptoBulkEntries {H : Type} : List (Lit × DataW H) → Nat
  | [] => 0
  | x :: r => uptoBulkEntry x + uptoBulkEntries r
def uptoBulkEntry {H : Type} : Lit × DataW H → Nat
  | (.string bytes, d) => bytes.length + uptoBulk d + 1
  | (_, d) => uptoBulk d + 1
 end
def uptoSmall : (H : Type) → List (DataW H) → Bool := fun _ ds => decide (uptoBulkAll ds ≤ 1048576)
def OpenSpec.upto (s : _root_.Go.ChangeSpec) : _root_.Go.OpenSpec := { _root_.Go.OpenSpec.ofChange s with cond := some uptoSmall }

/-- 'halyardlaw9.MemGets', WHERE WHAT IT READS IS OF BULK AT MOST 1048576: true; the input reads as it did. -/
def memGetsUptoRow : OpenClaim := { program := "ytlfjbklagljdlaadoor", sum := "ce8cb8a736f943c827d8fccdc6cde95dfc84bdd138b0e73e15ac4e74fc6c3e40", func := "halyard/halyardlaw9.MemGets", spec := "memGets", inPlace := ["internal/bytealg.Compare"], named := ["math/bits.deBruijn64tab"], apart := false, laid := [("math/bits.deBruijn64tab", laid_math_bits_deBruijn64tab)], narrowed := true }
def MemGetsUptoSaid : Prop := memGetsUptoRow.holds Tryd.pinned (OpenSpec.upto memGetsSpec)

/-- 'halyardlaw9.MemCuts', WHERE WHAT IT READS IS OF BULK AT MOST 1048576: true; the input reads as it did. -/
def memCutsUptoRow : OpenClaim := { program := "ytlfjbklagljdlaadoor", sum := "ce8cb8a736f943c827d8fccdc6cde95dfc84bdd138b0e73e15ac4e74fc6c3e40", func := "halyard/halyardlaw9.MemCuts", spec := "memCuts", inPlace := ["internal/bytealg.Compare"], named := ["math/bits.deBruijn64tab"], apart := false, laid := [("math/bits.deBruijn64tab", laid_math_bits_deBruijn64tab)], narrowed := true }
def MemCutsUptoSaid : Prop := memCutsUptoRow.holds Tryd.pinned (OpenSpec.upto memCutsSpec)

/-- 'halyardlaw9.MemApart', WHERE WHAT IT READS IS OF BULK AT MOST 1048576: true; the input reads as it did. -/
def memApartUptoRow : OpenClaim := { program := "ytlfjbklagljdlaadoor", sum := "ce8cb8a736f943c827d8fccdc6cde95dfc84bdd138b0e73e15ac4e74fc6c3e40", func := "halyard/halyardlaw9.MemApart", spec := "memApart", inPlace := ["internal/bytealg.Compare"], named := ["math/bits.deBruijn64tab"], apart := false, laid := [("math/bits.deBruijn64tab", laid_math_bits_deBruijn64tab)], narrowed := true }
def MemApartUptoSaid : Prop := memApartUptoRow.holds Tryd.pinned (OpenSpec.upto memApartSpec)

/-- 'halyardlaw9.MemTurned', WHERE WHAT IT READS IS OF BULK AT MOST 1048576: true; the input reads as it did. -/
def memTurnedUptoRow : OpenClaim := { program := "ytlfjbklagljdlaadoor", sum := "ce8cb8a736f943c827d8fccdc6cde95dfc84bdd138b0e73e15ac4e74fc6c3e40", func := "halyard/halyardlaw9.MemTurned", spec := "memTurned", inPlace := ["internal/bytealg.Compare"], named := ["math/bits.deBruijn64tab"], apart := false, laid := [("math/bits.deBruijn64tab", laid_math_bits_deBruijn64tab)], narrowed := true }
def MemTurnedUptoSaid : Prop := memTurnedUptoRow.holds Tryd.pinned (OpenSpec.upto memTurnedSpec)

/-- 'halyardlaw9.MemAdds', WHERE WHAT IT READS IS OF BULK AT MOST 1048576: true; the input reads as it did. -/
def memAddsUptoRow : OpenClaim := { program := "ytlfjbklagljdlaadoor", sum := "ce8cb8a736f943c827d8fccdc6cde95dfc84bdd138b0e73e15ac4e74fc6c3e40", func := "halyard/halyardlaw9.MemAdds", spec := "memAdds", inPlace := ["internal/bytealg.Compare"], named := ["math/bits.deBruijn64tab"], apart := false, laid := [("math/bits.deBruijn64tab", laid_math_bits_deBruijn64tab)], narrowed := true }
def MemAddsUptoSaid : Prop := memAddsUptoRow.holds Tryd.pinned (OpenSpec.upto memAddsSpec)

/-- 'halyardlaw9.MemLists', WHERE WHAT IT READS IS OF BULK AT MOST 1048576: true; the input reads as it did. -/
def memListsUptoRow : OpenClaim := { program := "ytlfjbklagljdlaadoor", sum := "ce8cb8a736f943c827d8fccdc6cde95dfc84bdd138b0e73e15ac4e74fc6c3e40", func := "halyard/halyardlaw9.MemLists", spec := "memLists", inPlace := ["internal/bytealg.Compare"], named := ["math/bits.deBruijn64tab"], apart := false, laid := [("math/bits.deBruijn64tab", laid_math_bits_deBruijn64tab)], narrowed := true }
def MemListsUptoSaid : Prop := memListsUptoRow.holds Tryd.pinned (OpenSpec.upto memListsSpec)

/-- 'halyardlaw9.MemLatest', WHERE WHAT IT READS IS OF BULK AT MOST 1048576: true; the input reads as it did. -/
def memLatestUptoRow : OpenClaim := { program := "ytlfjbklagljdlaadoor", sum := "ce8cb8a736f943c827d8fccdc6cde95dfc84bdd138b0e73e15ac4e74fc6c3e40", func := "halyard/halyardlaw9.MemLatest", spec := "memLatest", inPlace := ["internal/bytealg.Compare"], named := ["math/bits.deBruijn64tab"], apart := false, laid := [("math/bits.deBruijn64tab", laid_math_bits_deBruijn64tab)], narrowed := true }
def MemLatestUptoSaid : Prop := memLatestUptoRow.holds Tryd.pinned (OpenSpec.upto memLatestSpec)

/-- 'halyardlaw9.MemNil', WHERE WHAT IT READS IS OF BULK AT MOST 1048576: true; the input reads as it did. -/
def memNilUptoRow : OpenClaim := { program := "ytlfjbklagljdlaadoor", sum := "ce8cb8a736f943c827d8fccdc6cde95dfc84bdd138b0e73e15ac4e74fc6c3e40", func := "halyard/halyardlaw9.MemNil", spec := "memNil", inPlace := ["internal/bytealg.Compare"], named := ["math/bits.deBruijn64tab"], apart := false, laid := [("math/bits.deBruijn64tab", laid_math_bits_deBruijn64tab)], narrowed := true }
def MemNilUptoSaid : Prop := memNilUptoRow.holds Tryd.pinned (OpenSpec.upto memNilSpec)

end Rows
end Go.Proofs.YtlfjbklagljdlaaDoor
