/-
  No cell of these rows narrows 'for every input' (looked for: loops, veiled, ifaces, maps, wideKeys, modest, calm, conditions, laid).
  DERIVED. THE GIVEN ROWS OF THIS SEAT. 5 by the template 'for every input the law returns true; each argument reads behind the call as it read before'; 0 by the template 'total and deterministic' (their statements: YtkcfnehfdmlhiaaTotals.lean).
  GIVEN WITH THE SEED: the statements are not yours to turn. If you find one false, say at which input.
  Laid BY PROGRAM, IN A SANDBOX (cutbox-rows.mjs): the forced cells as the released guide's own fill.sh prints them over the translation aa31518c840d6929… (all of the seat's roots in one cut). By AI agents, Wed Nov 11 2026. No macro, syntax, notation, axiom, sorry.
-/
import Derived.Test.YtkcfnehfdmlhiaaChecked
import GoSem.Claim
import GoSem.ClaimJoined
import GoSem.ClaimMapViews
import Derived.JoinedTies
import Derived.KernelRfl
namespace Go.Proofs.Ytkcfnehfdmlhiaa
/- THE CELL 'sum', in the pinned program and in every row, IS THE sha256 OF THE DUMP (.gsa) THAT YtkcfnehfdmlhiaaProg.lean LOADS. Nothing in Lean hashes anything: it is a label: what it is worth is what the hold of that sum in a sandbox is worth. -/
noncomputable def Try.pinned : Pinned := { name := "ytkcfnehfdmlhiaa", sum := "aa31518c840d6929f023ccf63cdd49860eccbd82f3308d3a7bc0bf1afd090cb3", checked := Try.checked }
namespace Rows
def none {H : Type} : Left H := { results := [], args := [] }

/-- 'halyardlaw10.BloomHashes': WHATEVER THE INPUT: true; the input reads as it did. -/
def bloomHashesSpec : ChangeSpec := { name := "bloomHashes", fn := fun _ => fun
  | [d1, d2] => { results := [.lit (.bool true)], args := [d1, d2] }
  | _ => none }
def bloomHashesRow : OpenClaim := { program := "ytkcfnehfdmlhiaa", sum := "aa31518c840d6929f023ccf63cdd49860eccbd82f3308d3a7bc0bf1afd090cb3", func := "halyard/halyardlaw10.BloomHashes", spec := "bloomHashes", apart := false }
def BloomHashesSaid : Prop := bloomHashesRow.holds Try.pinned (OpenSpec.ofChange bloomHashesSpec)

/-- ITS FALSE NEIGHBOUR: 'it returns false'. Refute it at one input. -/
def bloomHashesWrong : ChangeSpec := { name := "bloomHashes", fn := fun _ => fun
  | [d1, d2] => { results := [.lit (.bool false)], args := [d1, d2] }
  | _ => none }
def BloomHashesWrongFalsely : Prop := bloomHashesRow.holds Try.pinned (OpenSpec.ofChange bloomHashesWrong)

/-- 'halyardlaw10.BloomHas': WHATEVER THE INPUT: true; the input reads as it did. -/
def bloomHasSpec : ChangeSpec := { name := "bloomHas", fn := fun _ => fun
  | [d1, d2] => { results := [.lit (.bool true)], args := [d1, d2] }
  | _ => none }
def bloomHasRow : OpenClaim := { program := "ytkcfnehfdmlhiaa", sum := "aa31518c840d6929f023ccf63cdd49860eccbd82f3308d3a7bc0bf1afd090cb3", func := "halyard/halyardlaw10.BloomHas", spec := "bloomHas", apart := false }
def BloomHasSaid : Prop := bloomHasRow.holds Try.pinned (OpenSpec.ofChange bloomHasSpec)

/-- ITS FALSE NEIGHBOUR: 'it returns false'. Refute it at one input. -/
def bloomHasWrong : ChangeSpec := { name := "bloomHas", fn := fun _ => fun
  | [d1, d2] => { results := [.lit (.bool false)], args := [d1, d2] }
  | _ => none }
def BloomHasWrongFalsely : Prop := bloomHasRow.holds Try.pinned (OpenSpec.ofChange bloomHasWrong)

/-- 'halyardlaw10.BloomBuilds': WHATEVER THE INPUT: true; the input reads as it did. -/
def bloomBuildsSpec : ChangeSpec := { name := "bloomBuilds", fn := fun _ => fun
  | [d] => { results := [.lit (.bool true)], args := [d] }
  | _ => none }
def bloomBuildsRow : OpenClaim := { program := "ytkcfnehfdmlhiaa", sum := "aa31518c840d6929f023ccf63cdd49860eccbd82f3308d3a7bc0bf1afd090cb3", func := "halyard/halyardlaw10.BloomBuilds", spec := "bloomBuilds", apart := false }
def BloomBuildsSaid : Prop := bloomBuildsRow.holds Try.pinned (OpenSpec.ofChange bloomBuildsSpec)

/-- ITS FALSE NEIGHBOUR: 'it returns false'. Refute it at one input. -/
def bloomBuildsWrong : ChangeSpec := { name := "bloomBuilds", fn := fun _ => fun
  | [d] => { results := [.lit (.bool false)], args := [d] }
  | _ => none }
def BloomBuildsWrongFalsely : Prop := bloomBuildsRow.holds Try.pinned (OpenSpec.ofChange bloomBuildsWrong)

/-- 'halyardlaw10.BloomMany': WHATEVER THE INPUT: true; the input reads as it did. -/
def bloomManySpec : ChangeSpec := { name := "bloomMany", fn := fun _ => fun
  | [d] => { results := [.lit (.bool true)], args := [d] }
  | _ => none }
def bloomManyRow : OpenClaim := { program := "ytkcfnehfdmlhiaa", sum := "aa31518c840d6929f023ccf63cdd49860eccbd82f3308d3a7bc0bf1afd090cb3", func := "halyard/halyardlaw10.BloomMany", spec := "bloomMany", apart := false }
def BloomManySaid : Prop := bloomManyRow.holds Try.pinned (OpenSpec.ofChange bloomManySpec)

/-- ITS FALSE NEIGHBOUR: 'it returns false'. Refute it at one input. -/
def bloomManyWrong : ChangeSpec := { name := "bloomMany", fn := fun _ => fun
  | [d] => { results := [.lit (.bool false)], args := [d] }
  | _ => none }
def BloomManyWrongFalsely : Prop := bloomManyRow.holds Try.pinned (OpenSpec.ofChange bloomManyWrong)

/-- 'halyardlaw10.BloomKeeps': WHATEVER THE INPUT: true; the input reads as it did. -/
def bloomKeepsSpec : ChangeSpec := { name := "bloomKeeps", fn := fun _ => fun
  | [d1, d2] => { results := [.lit (.bool true)], args := [d1, d2] }
  | _ => none }
def bloomKeepsRow : OpenClaim := { program := "ytkcfnehfdmlhiaa", sum := "aa31518c840d6929f023ccf63cdd49860eccbd82f3308d3a7bc0bf1afd090cb3", func := "halyard/halyardlaw10.BloomKeeps", spec := "bloomKeeps", apart := false }
def BloomKeepsSaid : Prop := bloomKeepsRow.holds Try.pinned (OpenSpec.ofChange bloomKeepsSpec)

/-- ITS FALSE NEIGHBOUR: 'it returns false'. Refute it at one input. -/
def bloomKeepsWrong : ChangeSpec := { name := "bloomKeeps", fn := fun _ => fun
  | [d1, d2] => { results := [.lit (.bool false)], args := [d1, d2] }
  | _ => none }
def BloomKeepsWrongFalsely : Prop := bloomKeepsRow.holds Try.pinned (OpenSpec.ofChange bloomKeepsWrong)

/- THE SECOND FORM. 'bulk': how many values and letters a reading holds, each counted each time it is reached (what is shared counts as often as it is met; a slice's spare places count too). A statement '..UptoSaid' is the law's where the arguments, and the package variables that the reading takes, are together of bulk at most 1048576: NARROWER than '..Said'. Prove '..Said' where nothing that the law and all that it calls make is longer than what came in: it says more and counts as full. Else prove '..UptoSaid'. A law counts once. -/
mutual
def uptoBulk {H : Type} : DataW H → Nat
  | .lit (.string bytes) => bytes.length + 1
  | .lit _ => 1
  | .nil => 1
  | .ptr d => uptoBulk d + 1
  | .slice elems spare => uptoBulkAll elems + uptoBulkAll spare + 1
  | .agg parts => uptoBulkAll parts + 1
  | .iface _ d => uptoBulk d + 1
  | .map entries => uptoBulkEntries entries + 1
  | .held _ => 1
def uptoBulkAll {H : Type} : List (DataW H) → Nat
  | [] => 0
  | d :: r => uptoBulk d + uptoBulkAll r
def uptoBulkEntries {H : Type} : List (Lit × DataW H) → Nat
  | [] => 0
  | x :: r => uptoBulkEntry x + uptoBulkEntries r
def uptoBulkEntry {H : Type} : Lit × DataW H → Nat
  | (.string bytes, d) => bytes.length + uptoBulk d + 1
  | (_, d) => uptoBulk d + 1
 end
def uptoSmall : (H : Type) → List (DataW H) → Bool := fun _ ds => decide (uptoBulkAll ds ≤ 1048576)
def OpenSpec.upto (s : _root_.Go.ChangeSpec) : _root_.Go.OpenSpec := { _root_.Go.OpenSpec.ofChange s with cond := some uptoSmall }

/-- 'halyardlaw10.BloomHashes', WHERE WHAT IT READS IS OF BULK AT MOST 1048576: true; the input reads as it did. -/
def bloomHashesUptoRow : OpenClaim := { program := "ytkcfnehfdmlhiaa", sum := "aa31518c840d6929f023ccf63cdd49860eccbd82f3308d3a7bc0bf1afd090cb3", func := "halyard/halyardlaw10.BloomHashes", spec := "bloomHashes", apart := false, narrowed := true }
def BloomHashesUptoSaid : Prop := bloomHashesUptoRow.holds Try.pinned (OpenSpec.upto bloomHashesSpec)

/-- 'halyardlaw10.BloomHas', WHERE WHAT IT READS IS OF BULK AT MOST 1048576: true; the input reads as it did. -/
def bloomHasUptoRow : OpenClaim := { program := "ytkcfnehfdmlhiaa", sum := "aa31518c840d6929f023ccf63cdd49860eccbd82f3308d3a7bc0bf1afd090cb3", func := "halyard/halyardlaw10.BloomHas", spec := "bloomHas", apart := false, narrowed := true }
def BloomHasUptoSaid : Prop := bloomHasUptoRow.holds Try.pinned (OpenSpec.upto bloomHasSpec)

/-- 'halyardlaw10.BloomBuilds', WHERE WHAT IT READS IS OF BULK AT MOST 1048576: true; the input reads as it did. -/
def bloomBuildsUptoRow : OpenClaim := { program := "ytkcfnehfdmlhiaa", sum := "aa31518c840d6929f023ccf63cdd49860eccbd82f3308d3a7bc0bf1afd090cb3", func := "halyard/halyardlaw10.BloomBuilds", spec := "bloomBuilds", apart := false, narrowed := true }
def BloomBuildsUptoSaid : Prop := bloomBuildsUptoRow.holds Try.pinned (OpenSpec.upto bloomBuildsSpec)

/-- 'halyardlaw10.BloomMany', WHERE WHAT IT READS IS OF BULK AT MOST 1048576: true; the input reads as it did. -/
def bloomManyUptoRow : OpenClaim := { program := "ytkcfnehfdmlhiaa", sum := "aa31518c840d6929f023ccf63cdd49860eccbd82f3308d3a7bc0bf1afd090cb3", func := "halyard/halyardlaw10.BloomMany", spec := "bloomMany", apart := false, narrowed := true }
def BloomManyUptoSaid : Prop := bloomManyUptoRow.holds Try.pinned (OpenSpec.upto bloomManySpec)

/-- 'halyardlaw10.BloomKeeps', WHERE WHAT IT READS IS OF BULK AT MOST 1048576: true; the input reads as it did. -/
def bloomKeepsUptoRow : OpenClaim := { program := "ytkcfnehfdmlhiaa", sum := "aa31518c840d6929f023ccf63cdd49860eccbd82f3308d3a7bc0bf1afd090cb3", func := "halyard/halyardlaw10.BloomKeeps", spec := "bloomKeeps", apart := false, narrowed := true }
def BloomKeepsUptoSaid : Prop := bloomKeepsUptoRow.holds Try.pinned (OpenSpec.upto bloomKeepsSpec)

end Rows
end Go.Proofs.Ytkcfnehfdmlhiaa
