/-
  No cell of these rows narrows 'for every input' (looked for: loops, veiled, ifaces, maps, wideKeys, modest, calm, conditions, laid).
  DERIVED. THE GIVEN ROWS OF THIS SEAT. 4 by the template 'for every input the law returns true; each argument reads behind the call as it read before'; 0 by the template 'total and deterministic' (their statements: YtdhmonomhifkkaaTotals.lean).
  GIVEN WITH THE SEED: the statements are not yours to turn. If you find one false, say at which input.
  Laid BY PROGRAM, IN A SANDBOX (cutbox-rows.mjs): the forced cells as the released guide's own fill.sh prints them over the translation b63624e8e405072b… (all of the seat's roots in one cut). By AI agents, Wed Nov 11 2026. No macro, syntax, notation, axiom, sorry.
-/
import Derived.Test.YtdhmonomhifkkaaChecked
import GoSem.Claim
import GoSem.ClaimJoined
import GoSem.ClaimMapViews
import Derived.JoinedTies
import Derived.KernelRfl
namespace Go.Proofs.Ytdhmonomhifkkaa
/- THE CELL 'sum', in the pinned program and in every row, IS THE sha256 OF THE DUMP (.gsa) THAT YtdhmonomhifkkaaProg.lean LOADS. Nothing in Lean hashes anything: it is a label: what it is worth is what the hold of that sum in a sandbox is worth. -/
noncomputable def Try.pinned : Pinned := { name := "ytdhmonomhifkkaa", sum := "b63624e8e405072b71ef16c6c02030411646ec380cf415d1083a7dcd3b519799", checked := Try.checked }
namespace Rows
def none {H : Type} : Left H := { results := [], args := [] }

/-- 'halyardlaw8.BatchMany': WHATEVER THE INPUT: true; the input reads as it did. -/
def batchManySpec : ChangeSpec := { name := "batchMany", fn := fun _ => fun
  | [d1, d2, d3, d4, d5, d6] => { results := [.lit (.bool true)], args := [d1, d2, d3, d4, d5, d6] }
  | _ => none }
def batchManyRow : OpenClaim := { program := "ytdhmonomhifkkaa", sum := "b63624e8e405072b71ef16c6c02030411646ec380cf415d1083a7dcd3b519799", func := "halyard/halyardlaw8.BatchMany", spec := "batchMany", apart := false }
def BatchManySaid : Prop := batchManyRow.holds Try.pinned (OpenSpec.ofChange batchManySpec)

/-- ITS FALSE NEIGHBOUR: 'it returns false'. Refute it at one input. -/
def batchManyWrong : ChangeSpec := { name := "batchMany", fn := fun _ => fun
  | [d1, d2, d3, d4, d5, d6] => { results := [.lit (.bool false)], args := [d1, d2, d3, d4, d5, d6] }
  | _ => none }
def BatchManyWrongFalsely : Prop := batchManyRow.holds Try.pinned (OpenSpec.ofChange batchManyWrong)

/-- 'halyardlaw8.BatchEncodes': WHATEVER THE INPUT: true; the input reads as it did. -/
def batchEncodesSpec : ChangeSpec := { name := "batchEncodes", fn := fun _ => fun
  | [d] => { results := [.lit (.bool true)], args := [d] }
  | _ => none }
def batchEncodesRow : OpenClaim := { program := "ytdhmonomhifkkaa", sum := "b63624e8e405072b71ef16c6c02030411646ec380cf415d1083a7dcd3b519799", func := "halyard/halyardlaw8.BatchEncodes", spec := "batchEncodes", apart := false }
def BatchEncodesSaid : Prop := batchEncodesRow.holds Try.pinned (OpenSpec.ofChange batchEncodesSpec)

/-- ITS FALSE NEIGHBOUR: 'it returns false'. Refute it at one input. -/
def batchEncodesWrong : ChangeSpec := { name := "batchEncodes", fn := fun _ => fun
  | [d] => { results := [.lit (.bool false)], args := [d] }
  | _ => none }
def BatchEncodesWrongFalsely : Prop := batchEncodesRow.holds Try.pinned (OpenSpec.ofChange batchEncodesWrong)

/-- 'halyardlaw8.BatchNumbers': WHATEVER THE INPUT: true; the input reads as it did. -/
def batchNumbersSpec : ChangeSpec := { name := "batchNumbers", fn := fun _ => fun
  | [d] => { results := [.lit (.bool true)], args := [d] }
  | _ => none }
def batchNumbersRow : OpenClaim := { program := "ytdhmonomhifkkaa", sum := "b63624e8e405072b71ef16c6c02030411646ec380cf415d1083a7dcd3b519799", func := "halyard/halyardlaw8.BatchNumbers", spec := "batchNumbers", apart := false }
def BatchNumbersSaid : Prop := batchNumbersRow.holds Try.pinned (OpenSpec.ofChange batchNumbersSpec)

/-- ITS FALSE NEIGHBOUR: 'it returns false'. Refute it at one input. -/
def batchNumbersWrong : ChangeSpec := { name := "batchNumbers", fn := fun _ => fun
  | [d] => { results := [.lit (.bool false)], args := [d] }
  | _ => none }
def BatchNumbersWrongFalsely : Prop := batchNumbersRow.holds Try.pinned (OpenSpec.ofChange batchNumbersWrong)

/-- 'halyardlaw8.BatchBack': WHATEVER THE INPUT: true; the input reads as it did. -/
def batchBackSpec : ChangeSpec := { name := "batchBack", fn := fun _ => fun
  | [d1, d2, d3] => { results := [.lit (.bool true)], args := [d1, d2, d3] }
  | _ => none }
def batchBackRow : OpenClaim := { program := "ytdhmonomhifkkaa", sum := "b63624e8e405072b71ef16c6c02030411646ec380cf415d1083a7dcd3b519799", func := "halyard/halyardlaw8.BatchBack", spec := "batchBack", apart := false }
def BatchBackSaid : Prop := batchBackRow.holds Try.pinned (OpenSpec.ofChange batchBackSpec)

/-- ITS FALSE NEIGHBOUR: 'it returns false'. Refute it at one input. -/
def batchBackWrong : ChangeSpec := { name := "batchBack", fn := fun _ => fun
  | [d1, d2, d3] => { results := [.lit (.bool false)], args := [d1, d2, d3] }
  | _ => none }
def BatchBackWrongFalsely : Prop := batchBackRow.holds Try.pinned (OpenSpec.ofChange batchBackWrong)

/- THE SECOND FORM. 'bulk': how many values and letters a reading holds, each counted each time it is reached (what is shared counts as often as it is met; a slice's spare places count too). A statement '..UptoSaid' is the law's where the arguments, and the package variables that the reading takes, are together of bulk at most 1048576: NARROWER than '..Said'. Prove '..Said' where nothing that the law and all that it calls make is longer than what came in: it says more and counts as full. Else prove '..UptoSaid'. A law counts once. -/
mutual
def uptoBulk {H : Type} : DataW H → Nat
  | .lit (.string bytes) => bytes.length + 1
  | .lit _ => 1
  | .nil => 1
  | .ptr d => uptoBulk d + 1
  | .slice elems spare => uptoBulkAll elems + uptoBulkAll spare + 1
  | .agg parts => uptoBulkAll parts + 1
  | .iface _ d => uptoBulk d + 1
  | .map entries => uptoBulkEntries entries + 1
  | .held _ => 1
def uptoBulkAll {H : Type} : List (DataW H) → Nat
  | [] => 0
  | d :: r => uptoBulk d + uptoBulkAll r
def uptoBulkEntries {H : Type} : List (Lit × DataW H) → Nat
  | [] => 0
  | x :: r => uptoBulkEntry x + uptoBulkEntries r
def uptoBulkEntry {H : Type} : Lit × DataW H → Nat
  | (.string bytes, d) => bytes.length + uptoBulk d + 1
  | (_, d) => uptoBulk d + 1
 end
def uptoSmall : (H : Type) → List (DataW H) → Bool := fun _ ds => decide (uptoBulkAll ds ≤ 1048576)
def OpenSpec.upto (s : _root_.Go.ChangeSpec) : _root_.Go.OpenSpec := { _root_.Go.OpenSpec.ofChange s with cond := some uptoSmall }

/-- 'halyardlaw8.BatchMany', WHERE WHAT IT READS IS OF BULK AT MOST 1048576: true; the input reads as it did. -/
def batchManyUptoRow : OpenClaim := { program := "ytdhmonomhifkkaa", sum := "b63624e8e405072b71ef16c6c02030411646ec380cf415d1083a7dcd3b519799", func := "halyard/halyardlaw8.BatchMany", spec := "batchMany", apart := false, narrowed := true }
def BatchManyUptoSaid : Prop := batchManyUptoRow.holds Try.pinned (OpenSpec.upto batchManySpec)

/-- 'halyardlaw8.BatchEncodes', WHERE WHAT IT READS IS OF BULK AT MOST 1048576: true; the input reads as it did. -/
def batchEncodesUptoRow : OpenClaim := { program := "ytdhmonomhifkkaa", sum := "b63624e8e405072b71ef16c6c02030411646ec380cf415d1083a7dcd3b519799", func := "halyard/halyardlaw8.BatchEncodes", spec := "batchEncodes", apart := false, narrowed := true }
def BatchEncodesUptoSaid : Prop := batchEncodesUptoRow.holds Try.pinned (OpenSpec.upto batchEncodesSpec)

/-- 'halyardlaw8.BatchNumbers', WHERE WHAT IT READS IS OF BULK AT MOST 1048576: true; the input reads as it did. -/
def batchNumbersUptoRow : OpenClaim := { program := "ytdhmonomhifkkaa", sum := "b63624e8e405072b71ef16c6c02030411646ec380cf415d1083a7dcd3b519799", func := "halyard/halyardlaw8.BatchNumbers", spec := "batchNumbers", apart := false, narrowed := true }
def BatchNumbersUptoSaid : Prop := batchNumbersUptoRow.holds Try.pinned (OpenSpec.upto batchNumbersSpec)

/-- 'halyardlaw8.BatchBack', WHERE WHAT IT READS IS OF BULK AT MOST 1048576: true; the input reads as it did. -/
def batchBackUptoRow : OpenClaim := { program := "ytdhmonomhifkkaa", sum := "b63624e8e405072b71ef16c6c02030411646ec380cf415d1083a7dcd3b519799", func := "halyard/halyardlaw8.BatchBack", spec := "batchBack", apart := false, narrowed := true }
def BatchBackUptoSaid : Prop := batchBackUptoRow.holds Try.pinned (OpenSpec.upto batchBackSpec)

end Rows
end Go.Proofs.Ytdhmonomhifkkaa
