/-
  No cell of these rows narrows 'for every input' (looked for: loops, veiled, ifaces, maps, wideKeys, modest, calm, conditions, laid).
  DERIVED. THE GIVEN ROWS OF THIS SEAT. 7 by the template 'for every input the law returns true; each argument reads behind the call as it read before'; 0 by the template 'total and deterministic' (their statements: YtkkclkknpjapcaaTotals.lean).
  GIVEN WITH THE SEED: the statements are not yours to turn. If you find one false, say at which input.
  Laid BY PROGRAM, IN A SANDBOX (cutbox-rows.mjs): the forced cells as the released guide's own fill.sh prints them over the translation ede52db93a13e977… (all of the seat's roots in one cut). By AI agents, Wed Nov 11 2026. No macro, syntax, notation, axiom, sorry.
-/
import Derived.Test.YtkkclkknpjapcaaChecked
import GoSem.Claim
import GoSem.ClaimJoined
import GoSem.ClaimMapViews
import Derived.JoinedTies
import Derived.KernelRfl
namespace Go.Proofs.Ytkkclkknpjapcaa
/- THE CELL 'sum', in the pinned program and in every row, IS THE sha256 OF THE DUMP (.gsa) THAT YtkkclkknpjapcaaProg.lean LOADS. Nothing in Lean hashes anything: it is a label: what it is worth is what the hold of that sum in a sandbox is worth. -/
noncomputable def Try.pinned : Pinned := { name := "ytkkclkknpjapcaa", sum := "ede52db93a13e97783502cfadb1ec369e7f50dc265d8268d4a79ec496fd92e12", checked := Try.checked }
namespace Rows
def none {H : Type} : Left H := { results := [], args := [] }

/-- 'halyardlaw12.TableBuilds': WHATEVER THE INPUT: true; the input reads as it did. -/
def tableBuildsSpec : ChangeSpec := { name := "tableBuilds", fn := fun _ => fun
  | [d] => { results := [.lit (.bool true)], args := [d] }
  | _ => none }
def tableBuildsRow : OpenClaim := { program := "ytkkclkknpjapcaa", sum := "ede52db93a13e97783502cfadb1ec369e7f50dc265d8268d4a79ec496fd92e12", func := "halyard/halyardlaw12.TableBuilds", spec := "tableBuilds", inPlace := ["internal/bytealg.Compare"], apart := false }
def TableBuildsSaid : Prop := tableBuildsRow.holds Try.pinned (OpenSpec.ofChange tableBuildsSpec)

/-- ITS FALSE NEIGHBOUR: 'it returns false'. Refute it at one input. -/
def tableBuildsWrong : ChangeSpec := { name := "tableBuilds", fn := fun _ => fun
  | [d] => { results := [.lit (.bool false)], args := [d] }
  | _ => none }
def TableBuildsWrongFalsely : Prop := tableBuildsRow.holds Try.pinned (OpenSpec.ofChange tableBuildsWrong)

/-- 'halyardlaw12.TableSpoilt': WHATEVER THE INPUT: true; the input reads as it did. -/
def tableSpoiltSpec : ChangeSpec := { name := "tableSpoilt", fn := fun _ => fun
  | [d1, d2, d3, d4] => { results := [.lit (.bool true)], args := [d1, d2, d3, d4] }
  | _ => none }
def tableSpoiltRow : OpenClaim := { program := "ytkkclkknpjapcaa", sum := "ede52db93a13e97783502cfadb1ec369e7f50dc265d8268d4a79ec496fd92e12", func := "halyard/halyardlaw12.TableSpoilt", spec := "tableSpoilt", inPlace := ["internal/bytealg.Compare"], unfollowed := true, recurses := true, apart := false }
def TableSpoiltSaid : Prop := tableSpoiltRow.holds Try.pinned (OpenSpec.ofChange tableSpoiltSpec)

/-- ITS FALSE NEIGHBOUR: 'it returns false'. Refute it at one input. -/
def tableSpoiltWrong : ChangeSpec := { name := "tableSpoilt", fn := fun _ => fun
  | [d1, d2, d3, d4] => { results := [.lit (.bool false)], args := [d1, d2, d3, d4] }
  | _ => none }
def TableSpoiltWrongFalsely : Prop := tableSpoiltRow.holds Try.pinned (OpenSpec.ofChange tableSpoiltWrong)

/-- 'halyardlaw12.TableBack': WHATEVER THE INPUT: true; the input reads as it did. -/
def tableBackSpec : ChangeSpec := { name := "tableBack", fn := fun _ => fun
  | [d1, d2, d3, d4] => { results := [.lit (.bool true)], args := [d1, d2, d3, d4] }
  | _ => none }
def tableBackRow : OpenClaim := { program := "ytkkclkknpjapcaa", sum := "ede52db93a13e97783502cfadb1ec369e7f50dc265d8268d4a79ec496fd92e12", func := "halyard/halyardlaw12.TableBack", spec := "tableBack", inPlace := ["internal/bytealg.Compare"], unfollowed := true, recurses := true, apart := false }
def TableBackSaid : Prop := tableBackRow.holds Try.pinned (OpenSpec.ofChange tableBackSpec)

/-- ITS FALSE NEIGHBOUR: 'it returns false'. Refute it at one input. -/
def tableBackWrong : ChangeSpec := { name := "tableBack", fn := fun _ => fun
  | [d1, d2, d3, d4] => { results := [.lit (.bool false)], args := [d1, d2, d3, d4] }
  | _ => none }
def TableBackWrongFalsely : Prop := tableBackRow.holds Try.pinned (OpenSpec.ofChange tableBackWrong)

/-- 'halyardlaw12.TableMany': WHATEVER THE INPUT: true; the input reads as it did. -/
def tableManySpec : ChangeSpec := { name := "tableMany", fn := fun _ => fun
  | [d1, d2] => { results := [.lit (.bool true)], args := [d1, d2] }
  | _ => none }
def tableManyRow : OpenClaim := { program := "ytkkclkknpjapcaa", sum := "ede52db93a13e97783502cfadb1ec369e7f50dc265d8268d4a79ec496fd92e12", func := "halyard/halyardlaw12.TableMany", spec := "tableMany", inPlace := ["internal/bytealg.Compare"], unfollowed := true, recurses := true, apart := false }
def TableManySaid : Prop := tableManyRow.holds Try.pinned (OpenSpec.ofChange tableManySpec)

/-- ITS FALSE NEIGHBOUR: 'it returns false'. Refute it at one input. -/
def tableManyWrong : ChangeSpec := { name := "tableMany", fn := fun _ => fun
  | [d1, d2] => { results := [.lit (.bool false)], args := [d1, d2] }
  | _ => none }
def TableManyWrongFalsely : Prop := tableManyRow.holds Try.pinned (OpenSpec.ofChange tableManyWrong)

/-- 'halyardlaw12.TableReads': WHATEVER THE INPUT: true; the input reads as it did. -/
def tableReadsSpec : ChangeSpec := { name := "tableReads", fn := fun _ => fun
  | [d1, d2, d3, d4, d5] => { results := [.lit (.bool true)], args := [d1, d2, d3, d4, d5] }
  | _ => none }
def tableReadsRow : OpenClaim := { program := "ytkkclkknpjapcaa", sum := "ede52db93a13e97783502cfadb1ec369e7f50dc265d8268d4a79ec496fd92e12", func := "halyard/halyardlaw12.TableReads", spec := "tableReads", inPlace := ["internal/bytealg.Compare"], unfollowed := true, recurses := true, apart := false }
def TableReadsSaid : Prop := tableReadsRow.holds Try.pinned (OpenSpec.ofChange tableReadsSpec)

/-- ITS FALSE NEIGHBOUR: 'it returns false'. Refute it at one input. -/
def tableReadsWrong : ChangeSpec := { name := "tableReads", fn := fun _ => fun
  | [d1, d2, d3, d4, d5] => { results := [.lit (.bool false)], args := [d1, d2, d3, d4, d5] }
  | _ => none }
def TableReadsWrongFalsely : Prop := tableReadsRow.holds Try.pinned (OpenSpec.ofChange tableReadsWrong)

/-- 'halyardlaw12.TableNil': WHATEVER THE INPUT: true; the input reads as it did. -/
def tableNilSpec : ChangeSpec := { name := "tableNil", fn := fun _ => fun
  | [d1, d2] => { results := [.lit (.bool true)], args := [d1, d2] }
  | _ => none }
def tableNilRow : OpenClaim := { program := "ytkkclkknpjapcaa", sum := "ede52db93a13e97783502cfadb1ec369e7f50dc265d8268d4a79ec496fd92e12", func := "halyard/halyardlaw12.TableNil", spec := "tableNil", inPlace := ["internal/bytealg.Compare"], unfollowed := true, recurses := true, apart := false }
def TableNilSaid : Prop := tableNilRow.holds Try.pinned (OpenSpec.ofChange tableNilSpec)

/-- ITS FALSE NEIGHBOUR: 'it returns false'. Refute it at one input. -/
def tableNilWrong : ChangeSpec := { name := "tableNil", fn := fun _ => fun
  | [d1, d2] => { results := [.lit (.bool false)], args := [d1, d2] }
  | _ => none }
def TableNilWrongFalsely : Prop := tableNilRow.holds Try.pinned (OpenSpec.ofChange tableNilWrong)

/-- 'halyardlaw12.TableKeys': WHATEVER THE INPUT: true; the input reads as it did. -/
def tableKeysSpec : ChangeSpec := { name := "tableKeys", fn := fun _ => fun
  | [d1, d2] => { results := [.lit (.bool true)], args := [d1, d2] }
  | _ => none }
def tableKeysRow : OpenClaim := { program := "ytkkclkknpjapcaa", sum := "ede52db93a13e97783502cfadb1ec369e7f50dc265d8268d4a79ec496fd92e12", func := "halyard/halyardlaw12.TableKeys", spec := "tableKeys", inPlace := ["internal/bytealg.Compare"], unfollowed := true, recurses := true, apart := false }
def TableKeysSaid : Prop := tableKeysRow.holds Try.pinned (OpenSpec.ofChange tableKeysSpec)

/-- ITS FALSE NEIGHBOUR: 'it returns false'. Refute it at one input. -/
def tableKeysWrong : ChangeSpec := { name := "tableKeys", fn := fun _ => fun
  | [d1, d2] => { results := [.lit (.bool false)], args := [d1, d2] }
  | _ => none }
def TableKeysWrongFalsely : Prop := tableKeysRow.holds Try.pinned (OpenSpec.ofChange tableKeysWrong)

/- THE SECOND FORM. 'bulk': how many values and letters a reading holds, each counted each time it is reached (what is shared counts as often as it is met; a slice's spare places count too). A statement '..UptoSaid' is the law's where the arguments, and the package variables that the reading takes, are together of bulk at most 1048576: NARROWER than '..Said'. Prove '..Said' where nothing that the law and all that it calls make is longer than what came in: it says more and counts as full. Else prove '..UptoSaid'. A law counts once. -/
mutual
def uptoBulk {H : Type} : DataW H → Nat
  | .lit (.string bytes) => bytes.length + 1
  | .lit _ => 1
  | .nil => 1
  | .ptr d => uptoBulk d + 1
  | .slice elems spare => uptoBulkAll elems + uptoBulkAll spare + 1
  | .agg parts => uptoBulkAll parts + 1
  | .iface _ d => uptoBulk d + 1
  | .map entries => uptoBulkEntries entries + 1
  | .held _ => 1
def uptoBulkAll {H : Type} : List (DataW H) → Nat
  | [] => 0
  | d :: r => uptoBulk d + uptoBulkAll r
def uptoBulkEntries {H : Type} : List (Lit × DataW H) → Nat
  | [] => 0
  | x :: r => uptoBulkEntry x + uptoBulkEntries r
def uptoBulkEntry {H : Type} : Lit × DataW H → Nat
  | (.string bytes, d) => bytes.length + uptoBulk d + 1
  | (_, d) => uptoBulk d + 1
 end
def uptoSmall : (H : Type) → List (DataW H) → Bool := fun _ ds => decide (uptoBulkAll ds ≤ 1048576)
def OpenSpec.upto (s : _root_.Go.ChangeSpec) : _root_.Go.OpenSpec := { _root_.Go.OpenSpec.ofChange s with cond := some uptoSmall }

/-- 'halyardlaw12.TableBuilds', WHERE WHAT IT READS IS OF BULK AT MOST 1048576: true; the input reads as it did. -/
def tableBuildsUptoRow : OpenClaim := { program := "ytkkclkknpjapcaa", sum := "ede52db93a13e97783502cfadb1ec369e7f50dc265d8268d4a79ec496fd92e12", func := "halyard/halyardlaw12.TableBuilds", spec := "tableBuilds", inPlace := ["internal/bytealg.Compare"], apart := false, narrowed := true }
def TableBuildsUptoSaid : Prop := tableBuildsUptoRow.holds Try.pinned (OpenSpec.upto tableBuildsSpec)

/-- 'halyardlaw12.TableSpoilt', WHERE WHAT IT READS IS OF BULK AT MOST 1048576: true; the input reads as it did. -/
def tableSpoiltUptoRow : OpenClaim := { program := "ytkkclkknpjapcaa", sum := "ede52db93a13e97783502cfadb1ec369e7f50dc265d8268d4a79ec496fd92e12", func := "halyard/halyardlaw12.TableSpoilt", spec := "tableSpoilt", inPlace := ["internal/bytealg.Compare"], unfollowed := true, recurses := true, apart := false, narrowed := true }
def TableSpoiltUptoSaid : Prop := tableSpoiltUptoRow.holds Try.pinned (OpenSpec.upto tableSpoiltSpec)

/-- 'halyardlaw12.TableBack', WHERE WHAT IT READS IS OF BULK AT MOST 1048576: true; the input reads as it did. -/
def tableBackUptoRow : OpenClaim := { program := "ytkkclkknpjapcaa", sum := "ede52db93a13e97783502cfadb1ec369e7f50dc265d8268d4a79ec496fd92e12", func := "halyard/halyardlaw12.TableBack", spec := "tableBack", inPlace := ["internal/bytealg.Compare"], unfollowed := true, recurses := true, apart := false, narrowed := true }
def TableBackUptoSaid : Prop := tableBackUptoRow.holds Try.pinned (OpenSpec.upto tableBackSpec)

/-- 'halyardlaw12.TableMany', WHERE WHAT IT READS IS OF BULK AT MOST 1048576: true; the input reads as it did. -/
def tableManyUptoRow : OpenClaim := { program := "ytkkclkknpjapcaa", sum := "ede52db93a13e97783502cfadb1ec369e7f50dc265d8268d4a79ec496fd92e12", func := "halyard/halyardlaw12.TableMany", spec := "tableMany", inPlace := ["internal/bytealg.Compare"], unfollowed := true, recurses := true, apart := false, narrowed := true }
def TableManyUptoSaid : Prop := tableManyUptoRow.holds Try.pinned (OpenSpec.upto tableManySpec)

/-- 'halyardlaw12.TableReads', WHERE WHAT IT READS IS OF BULK AT MOST 1048576: true; the input reads as it did. -/
def tableReadsUptoRow : OpenClaim := { program := "ytkkclkknpjapcaa", sum := "ede52db93a13e97783502cfadb1ec369e7f50dc265d8268d4a79ec496fd92e12", func := "halyard/halyardlaw12.TableReads", spec := "tableReads", inPlace := ["internal/bytealg.Compare"], unfollowed := true, recurses := true, apart := false, narrowed := true }
def TableReadsUptoSaid : Prop := tableReadsUptoRow.holds Try.pinned (OpenSpec.upto tableReadsSpec)

/-- 'halyardlaw12.TableNil', WHERE WHAT IT READS IS OF BULK AT MOST 1048576: true; the input reads as it did. -/
def tableNilUptoRow : OpenClaim := { program := "ytkkclkknpjapcaa", sum := "ede52db93a13e97783502cfadb1ec369e7f50dc265d8268d4a79ec496fd92e12", func := "halyard/halyardlaw12.TableNil", spec := "tableNil", inPlace := ["internal/bytealg.Compare"], unfollowed := true, recurses := true, apart := false, narrowed := true }
def TableNilUptoSaid : Prop := tableNilUptoRow.holds Try.pinned (OpenSpec.upto tableNilSpec)

/-- 'halyardlaw12.TableKeys', WHERE WHAT IT READS IS OF BULK AT MOST 1048576: true; the input reads as it did. -/
def tableKeysUptoRow : OpenClaim := { program := "ytkkclkknpjapcaa", sum := "ede52db93a13e97783502cfadb1ec369e7f50dc265d8268d4a79ec496fd92e12", func := "halyard/halyardlaw12.TableKeys", spec := "tableKeys", inPlace := ["internal/bytealg.Compare"], unfollowed := true, recurses := true, apart := false, narrowed := true }
def TableKeysUptoSaid : Prop := tableKeysUptoRow.holds Try.pinned (OpenSpec.upto tableKeysSpec)

end Rows
end Go.Proofs.Ytkkclkknpjapcaa
