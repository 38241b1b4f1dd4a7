/-
  No cell of these rows narrows 'for every input' (looked for: loops, veiled, ifaces, maps, wideKeys, modest, calm, conditions, laid).
  DERIVED. THE GIVEN ROWS OF THIS SEAT. 6 by the template 'for every input the law returns true; each argument reads behind the call as it read before'; 0 by the template 'total and deterministic' (their statements: YtnjhiiakpndnnaaTotals.lean).
  GIVEN WITH THE SEED: the statements are not yours to turn. If you find one false, say at which input.
  Laid BY PROGRAM, IN A SANDBOX (cutbox-rows.mjs): the forced cells as the released guide's own fill.sh prints them over the translation 31ee51027ff842be… (all of the seat's roots in one cut). By AI agents, Wed Nov 11 2026. No macro, syntax, notation, axiom, sorry.
-/
import Derived.Test.YtnjhiiakpndnnaaChecked
import GoSem.Claim
import GoSem.ClaimJoined
import GoSem.ClaimMapViews
import Derived.JoinedTies
import Derived.KernelRfl
namespace Go.Proofs.Ytnjhiiakpndnnaa
/- THE CELL 'sum', in the pinned program and in every row, IS THE sha256 OF THE DUMP (.gsa) THAT YtnjhiiakpndnnaaProg.lean LOADS. Nothing in Lean hashes anything: it is a label: what it is worth is what the hold of that sum in a sandbox is worth. -/
noncomputable def Try.pinned : Pinned := { name := "ytnjhiiakpndnnaa", sum := "31ee51027ff842bea2d5e5a0f6fccaa04cb01f03d98b711dd64246ff203ef8ff", checked := Try.checked }
namespace Rows
def none {H : Type} : Left H := { results := [], args := [] }

/-- 'halyardlaw16.MergeRows': WHATEVER THE INPUT: true; the input reads as it did. -/
def mergeRowsSpec : ChangeSpec := { name := "mergeRows", fn := fun _ => fun
  | [d] => { results := [.lit (.bool true)], args := [d] }
  | _ => none }
def mergeRowsRow : OpenClaim := { program := "ytnjhiiakpndnnaa", sum := "31ee51027ff842bea2d5e5a0f6fccaa04cb01f03d98b711dd64246ff203ef8ff", func := "halyard/halyardlaw16.MergeRows", spec := "mergeRows", inPlace := ["internal/bytealg.Compare"], unfollowed := true, recurses := true, apart := false }
def MergeRowsSaid : Prop := mergeRowsRow.holds Try.pinned (OpenSpec.ofChange mergeRowsSpec)

/-- ITS FALSE NEIGHBOUR: 'it returns false'. Refute it at one input. -/
def mergeRowsWrong : ChangeSpec := { name := "mergeRows", fn := fun _ => fun
  | [d] => { results := [.lit (.bool false)], args := [d] }
  | _ => none }
def MergeRowsWrongFalsely : Prop := mergeRowsRow.holds Try.pinned (OpenSpec.ofChange mergeRowsWrong)

/-- 'halyardlaw16.MergeMany': WHATEVER THE INPUT: true; the input reads as it did. -/
def mergeManySpec : ChangeSpec := { name := "mergeMany", fn := fun _ => fun
  | [d1, d2] => { results := [.lit (.bool true)], args := [d1, d2] }
  | _ => none }
def mergeManyRow : OpenClaim := { program := "ytnjhiiakpndnnaa", sum := "31ee51027ff842bea2d5e5a0f6fccaa04cb01f03d98b711dd64246ff203ef8ff", func := "halyard/halyardlaw16.MergeMany", spec := "mergeMany", inPlace := ["internal/bytealg.Compare"], unfollowed := true, recurses := true, apart := false }
def MergeManySaid : Prop := mergeManyRow.holds Try.pinned (OpenSpec.ofChange mergeManySpec)

/-- ITS FALSE NEIGHBOUR: 'it returns false'. Refute it at one input. -/
def mergeManyWrong : ChangeSpec := { name := "mergeMany", fn := fun _ => fun
  | [d1, d2] => { results := [.lit (.bool false)], args := [d1, d2] }
  | _ => none }
def MergeManyWrongFalsely : Prop := mergeManyRow.holds Try.pinned (OpenSpec.ofChange mergeManyWrong)

/-- 'halyardlaw16.MergeTwice': WHATEVER THE INPUT: true; the input reads as it did. -/
def mergeTwiceSpec : ChangeSpec := { name := "mergeTwice", fn := fun _ => fun
  | [d1, d2] => { results := [.lit (.bool true)], args := [d1, d2] }
  | _ => none }
def mergeTwiceRow : OpenClaim := { program := "ytnjhiiakpndnnaa", sum := "31ee51027ff842bea2d5e5a0f6fccaa04cb01f03d98b711dd64246ff203ef8ff", func := "halyard/halyardlaw16.MergeTwice", spec := "mergeTwice", inPlace := ["internal/bytealg.Compare"], unfollowed := true, recurses := true, apart := false }
def MergeTwiceSaid : Prop := mergeTwiceRow.holds Try.pinned (OpenSpec.ofChange mergeTwiceSpec)

/-- ITS FALSE NEIGHBOUR: 'it returns false'. Refute it at one input. -/
def mergeTwiceWrong : ChangeSpec := { name := "mergeTwice", fn := fun _ => fun
  | [d1, d2] => { results := [.lit (.bool false)], args := [d1, d2] }
  | _ => none }
def MergeTwiceWrongFalsely : Prop := mergeTwiceRow.holds Try.pinned (OpenSpec.ofChange mergeTwiceWrong)

/-- 'halyardlaw16.MergeTurned': WHATEVER THE INPUT: true; the input reads as it did. -/
def mergeTurnedSpec : ChangeSpec := { name := "mergeTurned", fn := fun _ => fun
  | [d] => { results := [.lit (.bool true)], args := [d] }
  | _ => none }
def mergeTurnedRow : OpenClaim := { program := "ytnjhiiakpndnnaa", sum := "31ee51027ff842bea2d5e5a0f6fccaa04cb01f03d98b711dd64246ff203ef8ff", func := "halyard/halyardlaw16.MergeTurned", spec := "mergeTurned", inPlace := ["internal/bytealg.Compare"], unfollowed := true, recurses := true, apart := false }
def MergeTurnedSaid : Prop := mergeTurnedRow.holds Try.pinned (OpenSpec.ofChange mergeTurnedSpec)

/-- ITS FALSE NEIGHBOUR: 'it returns false'. Refute it at one input. -/
def mergeTurnedWrong : ChangeSpec := { name := "mergeTurned", fn := fun _ => fun
  | [d] => { results := [.lit (.bool false)], args := [d] }
  | _ => none }
def MergeTurnedWrongFalsely : Prop := mergeTurnedRow.holds Try.pinned (OpenSpec.ofChange mergeTurnedWrong)

/-- 'halyardlaw16.MergeNil': WHATEVER THE INPUT: true; the input reads as it did. -/
def mergeNilSpec : ChangeSpec := { name := "mergeNil", fn := fun _ => fun
  | [d] => { results := [.lit (.bool true)], args := [d] }
  | _ => none }
def mergeNilRow : OpenClaim := { program := "ytnjhiiakpndnnaa", sum := "31ee51027ff842bea2d5e5a0f6fccaa04cb01f03d98b711dd64246ff203ef8ff", func := "halyard/halyardlaw16.MergeNil", spec := "mergeNil", inPlace := ["internal/bytealg.Compare"], unfollowed := true, recurses := true, apart := false }
def MergeNilSaid : Prop := mergeNilRow.holds Try.pinned (OpenSpec.ofChange mergeNilSpec)

/-- ITS FALSE NEIGHBOUR: 'it returns false'. Refute it at one input. -/
def mergeNilWrong : ChangeSpec := { name := "mergeNil", fn := fun _ => fun
  | [d] => { results := [.lit (.bool false)], args := [d] }
  | _ => none }
def MergeNilWrongFalsely : Prop := mergeNilRow.holds Try.pinned (OpenSpec.ofChange mergeNilWrong)

/-- 'halyardlaw16.MergeWalks': WHATEVER THE INPUT: true; the input reads as it did. -/
def mergeWalksSpec : ChangeSpec := { name := "mergeWalks", fn := fun _ => fun
  | [d1, d2] => { results := [.lit (.bool true)], args := [d1, d2] }
  | _ => none }
def mergeWalksRow : OpenClaim := { program := "ytnjhiiakpndnnaa", sum := "31ee51027ff842bea2d5e5a0f6fccaa04cb01f03d98b711dd64246ff203ef8ff", func := "halyard/halyardlaw16.MergeWalks", spec := "mergeWalks", inPlace := ["internal/bytealg.Compare"], unfollowed := true, recurses := true, apart := false }
def MergeWalksSaid : Prop := mergeWalksRow.holds Try.pinned (OpenSpec.ofChange mergeWalksSpec)

/-- ITS FALSE NEIGHBOUR: 'it returns false'. Refute it at one input. -/
def mergeWalksWrong : ChangeSpec := { name := "mergeWalks", fn := fun _ => fun
  | [d1, d2] => { results := [.lit (.bool false)], args := [d1, d2] }
  | _ => none }
def MergeWalksWrongFalsely : Prop := mergeWalksRow.holds Try.pinned (OpenSpec.ofChange mergeWalksWrong)

/- THE SECOND FORM. 'bulk': how many values and letters a reading holds, each counted each time it is reached (what is shared counts as often as it is met; a slice's spare places count too). A statement '..UptoSaid' is the law's where the arguments, and the package variables that the reading takes, are together of bulk at most 1048576: NARROWER than '..Said'. Prove '..Said' where nothing that the law and all that it calls make is longer than what came in: it says more and counts as full. Else prove '..UptoSaid'. A law counts once. -/
mutual
def uptoBulk {H : Type} : DataW H → Nat
  | .lit (.string bytes) => bytes.length + 1
  | .lit _ => 1
  | .nil => 1
  | .ptr d => uptoBulk d + 1
  | .slice elems spare => uptoBulkAll elems + uptoBulkAll spare + 1
  | .agg parts => uptoBulkAll parts + 1
  | .iface _ d => uptoBulk d + 1
  | .map entries => uptoBulkEntries entries + 1
  | .held _ => 1
def uptoBulkAll {H : Type} : List (DataW H) → Nat
  | [] => 0
  | d :: r => uptoBulk d + uptoBulkAll r
def uptoBulkEntries {H : Type} : List (Lit × DataW H) → Nat
  | [] => 0
  | x :: r => uptoBulkEntry x + uptoBulkEntries r
def uptoBulkEntry {H : Type} : Lit × DataW H → Nat
  | (.string bytes, d) => bytes.length + uptoBulk d + 1
  | (_, d) => uptoBulk d + 1
 end
def uptoSmall : (H : Type) → List (DataW H) → Bool := fun _ ds => decide (uptoBulkAll ds ≤ 1048576)
def OpenSpec.upto (s : _root_.Go.ChangeSpec) : _root_.Go.OpenSpec := { _root_.Go.OpenSpec.ofChange s with cond := some uptoSmall }

/-- 'halyardlaw16.MergeRows', WHERE WHAT IT READS IS OF BULK AT MOST 1048576: true; the input reads as it did. -/
def mergeRowsUptoRow : OpenClaim := { program := "ytnjhiiakpndnnaa", sum := "31ee51027ff842bea2d5e5a0f6fccaa04cb01f03d98b711dd64246ff203ef8ff", func := "halyard/halyardlaw16.MergeRows", spec := "mergeRows", inPlace := ["internal/bytealg.Compare"], unfollowed := true, recurses := true, apart := false, narrowed := true }
def MergeRowsUptoSaid : Prop := mergeRowsUptoRow.holds Try.pinned (OpenSpec.upto mergeRowsSpec)

/-- 'halyardlaw16.MergeMany', WHERE WHAT IT READS IS OF BULK AT MOST 1048576: true; the input reads as it did. -/
def mergeManyUptoRow : OpenClaim := { program := "ytnjhiiakpndnnaa", sum := "31ee51027ff842bea2d5e5a0f6fccaa04cb01f03d98b711dd64246ff203ef8ff", func := "halyard/halyardlaw16.MergeMany", spec := "mergeMany", inPlace := ["internal/bytealg.Compare"], unfollowed := true, recurses := true, apart := false, narrowed := true }
def MergeManyUptoSaid : Prop := mergeManyUptoRow.holds Try.pinned (OpenSpec.upto mergeManySpec)

/-- 'halyardlaw16.MergeTwice', WHERE WHAT IT READS IS OF BULK AT MOST 1048576: true; the input reads as it did. -/
def mergeTwiceUptoRow : OpenClaim := { program := "ytnjhiiakpndnnaa", sum := "31ee51027ff842bea2d5e5a0f6fccaa04cb01f03d98b711dd64246ff203ef8ff", func := "halyard/halyardlaw16.MergeTwice", spec := "mergeTwice", inPlace := ["internal/bytealg.Compare"], unfollowed := true, recurses := true, apart := false, narrowed := true }
def MergeTwiceUptoSaid : Prop := mergeTwiceUptoRow.holds Try.pinned (OpenSpec.upto mergeTwiceSpec)

/-- 'halyardlaw16.MergeTurned', WHERE WHAT IT READS IS OF BULK AT MOST 1048576: true; the input reads as it did. -/
def mergeTurnedUptoRow : OpenClaim := { program := "ytnjhiiakpndnnaa", sum := "31ee51027ff842bea2d5e5a0f6fccaa04cb01f03d98b711dd64246ff203ef8ff", func := "halyard/halyardlaw16.MergeTurned", spec := "mergeTurned", inPlace := ["internal/bytealg.Compare"], unfollowed := true, recurses := true, apart := false, narrowed := true }
def MergeTurnedUptoSaid : Prop := mergeTurnedUptoRow.holds Try.pinned (OpenSpec.upto mergeTurnedSpec)

/-- 'halyardlaw16.MergeNil', WHERE WHAT IT READS IS OF BULK AT MOST 1048576: true; the input reads as it did. -/
def mergeNilUptoRow : OpenClaim := { program := "ytnjhiiakpndnnaa", sum := "31ee51027ff842bea2d5e5a0f6fccaa04cb01f03d98b711dd64246ff203ef8ff", func := "halyard/halyardlaw16.MergeNil", spec := "mergeNil", inPlace := ["internal/bytealg.Compare"], unfollowed := true, recurses := true, apart := false, narrowed := true }
def MergeNilUptoSaid : Prop := mergeNilUptoRow.holds Try.pinned (OpenSpec.upto mergeNilSpec)

/-- 'halyardlaw16.MergeWalks', WHERE WHAT IT READS IS OF BULK AT MOST 1048576: true; the input reads as it did. -/
def mergeWalksUptoRow : OpenClaim := { program := "ytnjhiiakpndnnaa", sum := "31ee51027ff842bea2d5e5a0f6fccaa04cb01f03d98b711dd64246ff203ef8ff", func := "halyard/halyardlaw16.MergeWalks", spec := "mergeWalks", inPlace := ["internal/bytealg.Compare"], unfollowed := true, recurses := true, apart := false, narrowed := true }
def MergeWalksUptoSaid : Prop := mergeWalksUptoRow.holds Try.pinned (OpenSpec.upto mergeWalksSpec)

end Rows
end Go.Proofs.Ytnjhiiakpndnnaa
