/-
  No cell of these rows narrows 'for every input' (looked for: loops, veiled, ifaces, maps, wideKeys, modest, calm, conditions, laid).
  DERIVED. THE GIVEN ROWS OF THIS SEAT. 4 by the template 'for every input the law returns true; each argument reads behind the call as it read before'; 0 by the template 'total and deterministic' (their statements: YthiolcccgiibhaaTotals.lean).
  GIVEN WITH THE SEED: the statements are not yours to turn. If you find one false, say at which input.
  Laid BY PROGRAM, IN A SANDBOX (cutbox-rows.mjs): the forced cells as the released guide's own fill.sh prints them over the translation b0799115f01446c9… (all of the seat's roots in one cut). By AI agents, Wed Nov 11 2026. No macro, syntax, notation, axiom, sorry.
-/
import Derived.Test.YthiolcccgiibhaaChecked
import GoSem.Claim
import GoSem.ClaimJoined
import GoSem.ClaimMapViews
import Derived.JoinedTies
import Derived.KernelRfl
namespace Go.Proofs.Ythiolcccgiibhaa
/- THE CELL 'sum', in the pinned program and in every row, IS THE sha256 OF THE DUMP (.gsa) THAT YthiolcccgiibhaaProg.lean LOADS. Nothing in Lean hashes anything: it is a label: what it is worth is what the hold of that sum in a sandbox is worth. -/
noncomputable def Try.pinned : Pinned := { name := "ythiolcccgiibhaa", sum := "b0799115f01446c9474c7bb7ddcf400f551e5d17201af8242f87d8aa336c0cf0", checked := Try.checked }
namespace Rows
def none {H : Type} : Left H := { results := [], args := [] }

/-- 'halyardlaw14.EditLines': WHATEVER THE INPUT: true; the input reads as it did. -/
def editLinesSpec : ChangeSpec := { name := "editLines", fn := fun _ => fun
  | [d] => { results := [.lit (.bool true)], args := [d] }
  | _ => none }
def editLinesRow : OpenClaim := { program := "ythiolcccgiibhaa", sum := "b0799115f01446c9474c7bb7ddcf400f551e5d17201af8242f87d8aa336c0cf0", func := "halyard/halyardlaw14.EditLines", spec := "editLines", inPlace := ["internal/bytealg.Compare"], apart := false }
def EditLinesSaid : Prop := editLinesRow.holds Try.pinned (OpenSpec.ofChange editLinesSpec)

/-- ITS FALSE NEIGHBOUR: 'it returns false'. Refute it at one input. -/
def editLinesWrong : ChangeSpec := { name := "editLines", fn := fun _ => fun
  | [d] => { results := [.lit (.bool false)], args := [d] }
  | _ => none }
def EditLinesWrongFalsely : Prop := editLinesRow.holds Try.pinned (OpenSpec.ofChange editLinesWrong)

/-- 'halyardlaw14.EditEncodes': WHATEVER THE INPUT: true; the input reads as it did. -/
def editEncodesSpec : ChangeSpec := { name := "editEncodes", fn := fun _ => fun
  | [d] => { results := [.lit (.bool true)], args := [d] }
  | _ => none }
def editEncodesRow : OpenClaim := { program := "ythiolcccgiibhaa", sum := "b0799115f01446c9474c7bb7ddcf400f551e5d17201af8242f87d8aa336c0cf0", func := "halyard/halyardlaw14.EditEncodes", spec := "editEncodes", inPlace := ["internal/bytealg.Compare"], apart := false }
def EditEncodesSaid : Prop := editEncodesRow.holds Try.pinned (OpenSpec.ofChange editEncodesSpec)

/-- ITS FALSE NEIGHBOUR: 'it returns false'. Refute it at one input. -/
def editEncodesWrong : ChangeSpec := { name := "editEncodes", fn := fun _ => fun
  | [d] => { results := [.lit (.bool false)], args := [d] }
  | _ => none }
def EditEncodesWrongFalsely : Prop := editEncodesRow.holds Try.pinned (OpenSpec.ofChange editEncodesWrong)

/-- 'halyardlaw14.EditMany': WHATEVER THE INPUT: true; the input reads as it did. -/
def editManySpec : ChangeSpec := { name := "editMany", fn := fun _ => fun
  | [d1, d2, d3] => { results := [.lit (.bool true)], args := [d1, d2, d3] }
  | _ => none }
def editManyRow : OpenClaim := { program := "ythiolcccgiibhaa", sum := "b0799115f01446c9474c7bb7ddcf400f551e5d17201af8242f87d8aa336c0cf0", func := "halyard/halyardlaw14.EditMany", spec := "editMany", inPlace := ["internal/bytealg.Compare"], apart := false }
def EditManySaid : Prop := editManyRow.holds Try.pinned (OpenSpec.ofChange editManySpec)

/-- ITS FALSE NEIGHBOUR: 'it returns false'. Refute it at one input. -/
def editManyWrong : ChangeSpec := { name := "editMany", fn := fun _ => fun
  | [d1, d2, d3] => { results := [.lit (.bool false)], args := [d1, d2, d3] }
  | _ => none }
def EditManyWrongFalsely : Prop := editManyRow.holds Try.pinned (OpenSpec.ofChange editManyWrong)

/-- 'halyardlaw14.EditBack': WHATEVER THE INPUT: true; the input reads as it did. -/
def editBackSpec : ChangeSpec := { name := "editBack", fn := fun _ => fun
  | [d1, d2, d3] => { results := [.lit (.bool true)], args := [d1, d2, d3] }
  | _ => none }
def editBackRow : OpenClaim := { program := "ythiolcccgiibhaa", sum := "b0799115f01446c9474c7bb7ddcf400f551e5d17201af8242f87d8aa336c0cf0", func := "halyard/halyardlaw14.EditBack", spec := "editBack", inPlace := ["internal/bytealg.Compare"], apart := false }
def EditBackSaid : Prop := editBackRow.holds Try.pinned (OpenSpec.ofChange editBackSpec)

/-- ITS FALSE NEIGHBOUR: 'it returns false'. Refute it at one input. -/
def editBackWrong : ChangeSpec := { name := "editBack", fn := fun _ => fun
  | [d1, d2, d3] => { results := [.lit (.bool false)], args := [d1, d2, d3] }
  | _ => none }
def EditBackWrongFalsely : Prop := editBackRow.holds Try.pinned (OpenSpec.ofChange editBackWrong)

/- THE SECOND FORM. 'bulk': how many values and letters a reading holds, each counted each time it is reached (what is shared counts as often as it is met; a slice's spare places count too). A statement '..UptoSaid' is the law's where the arguments, and the package variables that the reading takes, are together of bulk at most 1048576: NARROWER than '..Said'. Prove '..Said' where nothing that the law and all that it calls make is longer than what came in: it says more and counts as full. Else prove '..UptoSaid'. A law counts once. -/
mutual
def uptoBulk {H : Type} : DataW H → Nat
  | .lit (.string bytes) => bytes.length + 1
  | .lit _ => 1
  | .nil => 1
  | .ptr d => uptoBulk d + 1
  | .slice elems spare => uptoBulkAll elems + uptoBulkAll spare + 1
  | .agg parts => uptoBulkAll parts + 1
  | .iface _ d => uptoBulk d + 1
  | .map entries => uptoBulkEntries entries + 1
  | .held _ => 1
def uptoBulkAll {H : Type} : List (DataW H) → Nat
  | [] => 0
  | d :: r => uptoBulk d + uptoBulkAll r
def uptoBulkEntries {H : Type} : List (Lit × DataW H) → Nat
  | [] => 0
  | x :: r => uptoBulkEntry x + uptoBulkEntries r
def uptoBulkEntry {H : Type} : Lit × DataW H → Nat
  | (.string bytes, d) => bytes.length + uptoBulk d + 1
  | (_, d) => uptoBulk d + 1
 end
def uptoSmall : (H : Type) → List (DataW H) → Bool := fun _ ds => decide (uptoBulkAll ds ≤ 1048576)
def OpenSpec.upto (s : _root_.Go.ChangeSpec) : _root_.Go.OpenSpec := { _root_.Go.OpenSpec.ofChange s with cond := some uptoSmall }

/-- 'halyardlaw14.EditLines', WHERE WHAT IT READS IS OF BULK AT MOST 1048576: true; the input reads as it did. -/
def editLinesUptoRow : OpenClaim := { program := "ythiolcccgiibhaa", sum := "b0799115f01446c9474c7bb7ddcf400f551e5d17201af8242f87d8aa336c0cf0", func := "halyard/halyardlaw14.EditLines", spec := "editLines", inPlace := ["internal/bytealg.Compare"], apart := false, narrowed := true }
def EditLinesUptoSaid : Prop := editLinesUptoRow.holds Try.pinned (OpenSpec.upto editLinesSpec)

/-- 'halyardlaw14.EditEncodes', WHERE WHAT IT READS IS OF BULK AT MOST 1048576: true; the input reads as it did. -/
def editEncodesUptoRow : OpenClaim := { program := "ythiolcccgiibhaa", sum := "b0799115f01446c9474c7bb7ddcf400f551e5d17201af8242f87d8aa336c0cf0", func := "halyard/halyardlaw14.EditEncodes", spec := "editEncodes", inPlace := ["internal/bytealg.Compare"], apart := false, narrowed := true }
def EditEncodesUptoSaid : Prop := editEncodesUptoRow.holds Try.pinned (OpenSpec.upto editEncodesSpec)

/-- 'halyardlaw14.EditMany', WHERE WHAT IT READS IS OF BULK AT MOST 1048576: true; the input reads as it did. -/
def editManyUptoRow : OpenClaim := { program := "ythiolcccgiibhaa", sum := "b0799115f01446c9474c7bb7ddcf400f551e5d17201af8242f87d8aa336c0cf0", func := "halyard/halyardlaw14.EditMany", spec := "editMany", inPlace := ["internal/bytealg.Compare"], apart := false, narrowed := true }
def EditManyUptoSaid : Prop := editManyUptoRow.holds Try.pinned (OpenSpec.upto editManySpec)

/-- 'halyardlaw14.EditBack', WHERE WHAT IT READS IS OF BULK AT MOST 1048576: true; the input reads as it did. -/
def editBackUptoRow : OpenClaim := { program := "ythiolcccgiibhaa", sum := "b0799115f01446c9474c7bb7ddcf400f551e5d17201af8242f87d8aa336c0cf0", func := "halyard/halyardlaw14.EditBack", spec := "editBack", inPlace := ["internal/bytealg.Compare"], apart := false, narrowed := true }
def EditBackUptoSaid : Prop := editBackUptoRow.holds Try.pinned (OpenSpec.upto editBackSpec)

end Rows
end Go.Proofs.Ythiolcccgiibhaa
