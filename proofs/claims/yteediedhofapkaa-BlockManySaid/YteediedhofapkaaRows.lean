/-
  No cell of these rows narrows 'for every input' (looked for: loops, veiled, ifaces, maps, wideKeys, modest, calm, conditions, laid).
  DERIVED. THE GIVEN ROWS OF THIS SEAT. 3 by the template 'for every input the law returns true; each argument reads behind the call as it read before'; 0 by the template 'total and deterministic' (their statements: YteediedhofapkaaTotals.lean).
  GIVEN WITH THE SEED: the statements are not yours to turn. If you find one false, say at which input.
  Laid BY PROGRAM, IN A SANDBOX (cutbox-rows.mjs): the forced cells as the released guide's own fill.sh prints them over the translation 1f2f9f55849a40f9… (all of the seat's roots in one cut). By AI agents, Wed Nov 11 2026. No macro, syntax, notation, axiom, sorry.
-/
import Derived.Test.YteediedhofapkaaChecked
import GoSem.Claim
import GoSem.ClaimJoined
import GoSem.ClaimMapViews
import Derived.JoinedTies
import Derived.KernelRfl
namespace Go.Proofs.Yteediedhofapkaa
/- THE CELL 'sum', in the pinned program and in every row, IS THE sha256 OF THE DUMP (.gsa) THAT YteediedhofapkaaProg.lean LOADS. Nothing in Lean hashes anything: it is a label: what it is worth is what the hold of that sum in a sandbox is worth. -/
noncomputable def Try.pinned : Pinned := { name := "yteediedhofapkaa", sum := "1f2f9f55849a40f996afa020f0e085d9f1e27e94f2af0b71d46dda510caa54a9", checked := Try.checked }
namespace Rows
def none {H : Type} : Left H := { results := [], args := [] }

/-- 'halyardlaw11.BlockMany': WHATEVER THE INPUT: true; the input reads as it did. -/
def blockManySpec : ChangeSpec := { name := "blockMany", fn := fun _ => fun
  | [d1, d2, d3] => { results := [.lit (.bool true)], args := [d1, d2, d3] }
  | _ => none }
def blockManyRow : OpenClaim := { program := "yteediedhofapkaa", sum := "1f2f9f55849a40f996afa020f0e085d9f1e27e94f2af0b71d46dda510caa54a9", func := "halyard/halyardlaw11.BlockMany", spec := "blockMany", inPlace := ["internal/bytealg.Compare"], apart := false }
def BlockManySaid : Prop := blockManyRow.holds Try.pinned (OpenSpec.ofChange blockManySpec)

/-- ITS FALSE NEIGHBOUR: 'it returns false'. Refute it at one input. -/
def blockManyWrong : ChangeSpec := { name := "blockMany", fn := fun _ => fun
  | [d1, d2, d3] => { results := [.lit (.bool false)], args := [d1, d2, d3] }
  | _ => none }
def BlockManyWrongFalsely : Prop := blockManyRow.holds Try.pinned (OpenSpec.ofChange blockManyWrong)

/-- 'halyardlaw11.BlockBack': WHATEVER THE INPUT: true; the input reads as it did. -/
def blockBackSpec : ChangeSpec := { name := "blockBack", fn := fun _ => fun
  | [d1, d2] => { results := [.lit (.bool true)], args := [d1, d2] }
  | _ => none }
def blockBackRow : OpenClaim := { program := "yteediedhofapkaa", sum := "1f2f9f55849a40f996afa020f0e085d9f1e27e94f2af0b71d46dda510caa54a9", func := "halyard/halyardlaw11.BlockBack", spec := "blockBack", inPlace := ["internal/bytealg.Compare"], apart := false }
def BlockBackSaid : Prop := blockBackRow.holds Try.pinned (OpenSpec.ofChange blockBackSpec)

/-- ITS FALSE NEIGHBOUR: 'it returns false'. Refute it at one input. -/
def blockBackWrong : ChangeSpec := { name := "blockBack", fn := fun _ => fun
  | [d1, d2] => { results := [.lit (.bool false)], args := [d1, d2] }
  | _ => none }
def BlockBackWrongFalsely : Prop := blockBackRow.holds Try.pinned (OpenSpec.ofChange blockBackWrong)

/-- 'halyardlaw11.BlockSeeks': WHATEVER THE INPUT: true; the input reads as it did. -/
def blockSeeksSpec : ChangeSpec := { name := "blockSeeks", fn := fun _ => fun
  | [d1, d2, d3] => { results := [.lit (.bool true)], args := [d1, d2, d3] }
  | _ => none }
def blockSeeksRow : OpenClaim := { program := "yteediedhofapkaa", sum := "1f2f9f55849a40f996afa020f0e085d9f1e27e94f2af0b71d46dda510caa54a9", func := "halyard/halyardlaw11.BlockSeeks", spec := "blockSeeks", inPlace := ["internal/bytealg.Compare"], unfollowed := true, recurses := true, apart := false }
def BlockSeeksSaid : Prop := blockSeeksRow.holds Try.pinned (OpenSpec.ofChange blockSeeksSpec)

/-- ITS FALSE NEIGHBOUR: 'it returns false'. Refute it at one input. -/
def blockSeeksWrong : ChangeSpec := { name := "blockSeeks", fn := fun _ => fun
  | [d1, d2, d3] => { results := [.lit (.bool false)], args := [d1, d2, d3] }
  | _ => none }
def BlockSeeksWrongFalsely : Prop := blockSeeksRow.holds Try.pinned (OpenSpec.ofChange blockSeeksWrong)

/- THE SECOND FORM. 'bulk': how many values and letters a reading holds, each counted each time it is reached (what is shared counts as often as it is met; a slice's spare places count too). A statement '..UptoSaid' is the law's where the arguments, and the package variables that the reading takes, are together of bulk at most 1048576: NARROWER than '..Said'. Prove '..Said' where nothing that the law and all that it calls make is longer than what came in: it says more and counts as full. Else prove '..UptoSaid'. A law counts once. -/
mutual
def uptoBulk {H : Type} : DataW H → Nat
  | .lit (.string bytes) => bytes.length + 1
  | .lit _ => 1
  | .nil => 1
  | .ptr d => uptoBulk d + 1
  | .slice elems spare => uptoBulkAll elems + uptoBulkAll spare + 1
  | .agg parts => uptoBulkAll parts + 1
  | .iface _ d => uptoBulk d + 1
  | .map entries => uptoBulkEntries entries + 1
  | .held _ => 1
def uptoBulkAll {H : Type} : List (DataW H) → Nat
  | [] => 0
  | d :: r => uptoBulk d + uptoBulkAll r
def uptoBulkEntries {H : Type} : List (Lit × DataW H) → Nat
  | [] => 0
  | x :: r => uptoBulkEntry x + uptoBulkEntries r
def uptoBulkEntry {H : Type} : Lit × DataW H → Nat
  | (.string bytes, d) => bytes.length + uptoBulk d + 1
  | (_, d) => uptoBulk d + 1
 end
def uptoSmall : (H : Type) → List (DataW H) → Bool := fun _ ds => decide (uptoBulkAll ds ≤ 1048576)
def OpenSpec.upto (s : _root_.Go.ChangeSpec) : _root_.Go.OpenSpec := { _root_.Go.OpenSpec.ofChange s with cond := some uptoSmall }

/-- 'halyardlaw11.BlockMany', WHERE WHAT IT READS IS OF BULK AT MOST 1048576: true; the input reads as it did. -/
def blockManyUptoRow : OpenClaim := { program := "yteediedhofapkaa", sum := "1f2f9f55849a40f996afa020f0e085d9f1e27e94f2af0b71d46dda510caa54a9", func := "halyard/halyardlaw11.BlockMany", spec := "blockMany", inPlace := ["internal/bytealg.Compare"], apart := false, narrowed := true }
def BlockManyUptoSaid : Prop := blockManyUptoRow.holds Try.pinned (OpenSpec.upto blockManySpec)

/-- 'halyardlaw11.BlockBack', WHERE WHAT IT READS IS OF BULK AT MOST 1048576: true; the input reads as it did. -/
def blockBackUptoRow : OpenClaim := { program := "yteediedhofapkaa", sum := "1f2f9f55849a40f996afa020f0e085d9f1e27e94f2af0b71d46dda510caa54a9", func := "halyard/halyardlaw11.BlockBack", spec := "blockBack", inPlace := ["internal/bytealg.Compare"], apart := false, narrowed := true }
def BlockBackUptoSaid : Prop := blockBackUptoRow.holds Try.pinned (OpenSpec.upto blockBackSpec)

/-- 'halyardlaw11.BlockSeeks', WHERE WHAT IT READS IS OF BULK AT MOST 1048576: true; the input reads as it did. -/
def blockSeeksUptoRow : OpenClaim := { program := "yteediedhofapkaa", sum := "1f2f9f55849a40f996afa020f0e085d9f1e27e94f2af0b71d46dda510caa54a9", func := "halyard/halyardlaw11.BlockSeeks", spec := "blockSeeks", inPlace := ["internal/bytealg.Compare"], unfollowed := true, recurses := true, apart := false, narrowed := true }
def BlockSeeksUptoSaid : Prop := blockSeeksUptoRow.holds Try.pinned (OpenSpec.upto blockSeeksSpec)

end Rows
end Go.Proofs.Yteediedhofapkaa
