/-
  No cell of these rows narrows 'for every input' (looked for: loops, veiled, ifaces, maps, wideKeys, modest, calm, conditions, laid).
  DERIVED. THE GIVEN ROWS OF THIS SEAT. 8 by the template 'for every input the law returns true; each argument reads behind the call as it read before'; 0 by the template 'total and deterministic' (their statements: YtbjpbnflioiccaaTotals.lean).
  GIVEN WITH THE SEED: the statements are not yours to turn. If you find one false, say at which input.
  Laid BY PROGRAM, IN A SANDBOX (cutbox-rows.mjs): the forced cells as the released guide's own fill.sh prints them over the translation 52d7d51f3bb66263… (all of the seat's roots in one cut). By AI agents, Wed Nov 11 2026. No macro, syntax, notation, axiom, sorry.
-/
import Derived.Test.YtbjpbnflioiccaaChecked
import GoSem.Claim
import GoSem.ClaimJoined
import GoSem.ClaimMapViews
import Derived.JoinedTies
import Derived.KernelRfl
namespace Go.Proofs.Ytbjpbnflioiccaa
/- THE CELL 'sum', in the pinned program and in every row, IS THE sha256 OF THE DUMP (.gsa) THAT YtbjpbnflioiccaaProg.lean LOADS. Nothing in Lean hashes anything: it is a label: what it is worth is what the hold of that sum in a sandbox is worth. -/
noncomputable def Try.pinned : Pinned := { name := "ytbjpbnflioiccaa", sum := "52d7d51f3bb66263fe9213690e4e7c1275d5a0247bf286038e5ca75ec5a79327", checked := Try.checked }
namespace Rows
def none {H : Type} : Left H := { results := [], args := [] }

/-- 'halyardlaw2.VintTakes': WHATEVER THE INPUT: true; the input reads as it did. -/
def vintTakesSpec : ChangeSpec := { name := "vintTakes", fn := fun _ => fun
  | [d1, d2] => { results := [.lit (.bool true)], args := [d1, d2] }
  | _ => none }
def vintTakesRow : OpenClaim := { program := "ytbjpbnflioiccaa", sum := "52d7d51f3bb66263fe9213690e4e7c1275d5a0247bf286038e5ca75ec5a79327", func := "halyard/halyardlaw2.VintTakes", spec := "vintTakes", apart := false }
def VintTakesSaid : Prop := vintTakesRow.holds Try.pinned (OpenSpec.ofChange vintTakesSpec)

/-- ITS FALSE NEIGHBOUR: 'it returns false'. Refute it at one input. -/
def vintTakesWrong : ChangeSpec := { name := "vintTakes", fn := fun _ => fun
  | [d1, d2] => { results := [.lit (.bool false)], args := [d1, d2] }
  | _ => none }
def VintTakesWrongFalsely : Prop := vintTakesRow.holds Try.pinned (OpenSpec.ofChange vintTakesWrong)

/-- 'halyardlaw2.VintFixed': WHATEVER THE INPUT: true; the input reads as it did. -/
def vintFixedSpec : ChangeSpec := { name := "vintFixed", fn := fun _ => fun
  | [d1, d2, d3] => { results := [.lit (.bool true)], args := [d1, d2, d3] }
  | _ => none }
def vintFixedRow : OpenClaim := { program := "ytbjpbnflioiccaa", sum := "52d7d51f3bb66263fe9213690e4e7c1275d5a0247bf286038e5ca75ec5a79327", func := "halyard/halyardlaw2.VintFixed", spec := "vintFixed", apart := false }
def VintFixedSaid : Prop := vintFixedRow.holds Try.pinned (OpenSpec.ofChange vintFixedSpec)

/-- ITS FALSE NEIGHBOUR: 'it returns false'. Refute it at one input. -/
def vintFixedWrong : ChangeSpec := { name := "vintFixed", fn := fun _ => fun
  | [d1, d2, d3] => { results := [.lit (.bool false)], args := [d1, d2, d3] }
  | _ => none }
def VintFixedWrongFalsely : Prop := vintFixedRow.holds Try.pinned (OpenSpec.ofChange vintFixedWrong)

/-- 'halyardlaw2.VintBytes': WHATEVER THE INPUT: true; the input reads as it did. -/
def vintBytesSpec : ChangeSpec := { name := "vintBytes", fn := fun _ => fun
  | [d1, d2, d3] => { results := [.lit (.bool true)], args := [d1, d2, d3] }
  | _ => none }
def vintBytesRow : OpenClaim := { program := "ytbjpbnflioiccaa", sum := "52d7d51f3bb66263fe9213690e4e7c1275d5a0247bf286038e5ca75ec5a79327", func := "halyard/halyardlaw2.VintBytes", spec := "vintBytes", apart := false }
def VintBytesSaid : Prop := vintBytesRow.holds Try.pinned (OpenSpec.ofChange vintBytesSpec)

/-- ITS FALSE NEIGHBOUR: 'it returns false'. Refute it at one input. -/
def vintBytesWrong : ChangeSpec := { name := "vintBytes", fn := fun _ => fun
  | [d1, d2, d3] => { results := [.lit (.bool false)], args := [d1, d2, d3] }
  | _ => none }
def VintBytesWrongFalsely : Prop := vintBytesRow.holds Try.pinned (OpenSpec.ofChange vintBytesWrong)

/-- 'halyardlaw2.VintRows': WHATEVER THE INPUT: true; the input reads as it did. -/
def vintRowsSpec : ChangeSpec := { name := "vintRows", fn := fun _ => fun
  | [d1, d2] => { results := [.lit (.bool true)], args := [d1, d2] }
  | _ => none }
def vintRowsRow : OpenClaim := { program := "ytbjpbnflioiccaa", sum := "52d7d51f3bb66263fe9213690e4e7c1275d5a0247bf286038e5ca75ec5a79327", func := "halyard/halyardlaw2.VintRows", spec := "vintRows", apart := false }
def VintRowsSaid : Prop := vintRowsRow.holds Try.pinned (OpenSpec.ofChange vintRowsSpec)

/-- ITS FALSE NEIGHBOUR: 'it returns false'. Refute it at one input. -/
def vintRowsWrong : ChangeSpec := { name := "vintRows", fn := fun _ => fun
  | [d1, d2] => { results := [.lit (.bool false)], args := [d1, d2] }
  | _ => none }
def VintRowsWrongFalsely : Prop := vintRowsRow.holds Try.pinned (OpenSpec.ofChange vintRowsWrong)

/-- 'halyardlaw2.VintLengths': WHATEVER THE INPUT: true; the input reads as it did. -/
def vintLengthsSpec : ChangeSpec := { name := "vintLengths", fn := fun _ => fun
  | [d1, d2] => { results := [.lit (.bool true)], args := [d1, d2] }
  | _ => none }
def vintLengthsRow : OpenClaim := { program := "ytbjpbnflioiccaa", sum := "52d7d51f3bb66263fe9213690e4e7c1275d5a0247bf286038e5ca75ec5a79327", func := "halyard/halyardlaw2.VintLengths", spec := "vintLengths", apart := false }
def VintLengthsSaid : Prop := vintLengthsRow.holds Try.pinned (OpenSpec.ofChange vintLengthsSpec)

/-- ITS FALSE NEIGHBOUR: 'it returns false'. Refute it at one input. -/
def vintLengthsWrong : ChangeSpec := { name := "vintLengths", fn := fun _ => fun
  | [d1, d2] => { results := [.lit (.bool false)], args := [d1, d2] }
  | _ => none }
def VintLengthsWrongFalsely : Prop := vintLengthsRow.holds Try.pinned (OpenSpec.ofChange vintLengthsWrong)

/-- 'halyardlaw2.VintNeedless': WHATEVER THE INPUT: true; the input reads as it did. -/
def vintNeedlessSpec : ChangeSpec := { name := "vintNeedless", fn := fun _ => fun
  | [d] => { results := [.lit (.bool true)], args := [d] }
  | _ => none }
def vintNeedlessRow : OpenClaim := { program := "ytbjpbnflioiccaa", sum := "52d7d51f3bb66263fe9213690e4e7c1275d5a0247bf286038e5ca75ec5a79327", func := "halyard/halyardlaw2.VintNeedless", spec := "vintNeedless", apart := false }
def VintNeedlessSaid : Prop := vintNeedlessRow.holds Try.pinned (OpenSpec.ofChange vintNeedlessSpec)

/-- ITS FALSE NEIGHBOUR: 'it returns false'. Refute it at one input. -/
def vintNeedlessWrong : ChangeSpec := { name := "vintNeedless", fn := fun _ => fun
  | [d] => { results := [.lit (.bool false)], args := [d] }
  | _ => none }
def VintNeedlessWrongFalsely : Prop := vintNeedlessRow.holds Try.pinned (OpenSpec.ofChange vintNeedlessWrong)

/-- 'halyardlaw2.VintBack': WHATEVER THE INPUT: true; the input reads as it did. -/
def vintBackSpec : ChangeSpec := { name := "vintBack", fn := fun _ => fun
  | [d1, d2, d3] => { results := [.lit (.bool true)], args := [d1, d2, d3] }
  | _ => none }
def vintBackRow : OpenClaim := { program := "ytbjpbnflioiccaa", sum := "52d7d51f3bb66263fe9213690e4e7c1275d5a0247bf286038e5ca75ec5a79327", func := "halyard/halyardlaw2.VintBack", spec := "vintBack", apart := false }
def VintBackSaid : Prop := vintBackRow.holds Try.pinned (OpenSpec.ofChange vintBackSpec)

/-- ITS FALSE NEIGHBOUR: 'it returns false'. Refute it at one input. -/
def vintBackWrong : ChangeSpec := { name := "vintBack", fn := fun _ => fun
  | [d1, d2, d3] => { results := [.lit (.bool false)], args := [d1, d2, d3] }
  | _ => none }
def VintBackWrongFalsely : Prop := vintBackRow.holds Try.pinned (OpenSpec.ofChange vintBackWrong)

/-- 'halyardlaw2.VintGrows': WHATEVER THE INPUT: true; the input reads as it did. -/
def vintGrowsSpec : ChangeSpec := { name := "vintGrows", fn := fun _ => fun
  | [d1, d2, d3, d4] => { results := [.lit (.bool true)], args := [d1, d2, d3, d4] }
  | _ => none }
def vintGrowsRow : OpenClaim := { program := "ytbjpbnflioiccaa", sum := "52d7d51f3bb66263fe9213690e4e7c1275d5a0247bf286038e5ca75ec5a79327", func := "halyard/halyardlaw2.VintGrows", spec := "vintGrows", apart := false }
def VintGrowsSaid : Prop := vintGrowsRow.holds Try.pinned (OpenSpec.ofChange vintGrowsSpec)

/-- ITS FALSE NEIGHBOUR: 'it returns false'. Refute it at one input. -/
def vintGrowsWrong : ChangeSpec := { name := "vintGrows", fn := fun _ => fun
  | [d1, d2, d3, d4] => { results := [.lit (.bool false)], args := [d1, d2, d3, d4] }
  | _ => none }
def VintGrowsWrongFalsely : Prop := vintGrowsRow.holds Try.pinned (OpenSpec.ofChange vintGrowsWrong)

/- THE SECOND FORM. 'bulk': how many values and letters a reading holds, each counted each time it is reached (what is shared counts as often as it is met; a slice's spare places count too). A statement '..UptoSaid' is the law's where the arguments, and the package variables that the reading takes, are together of bulk at most 1048576: NARROWER than '..Said'. Prove '..Said' where nothing that the law and all that it calls make is longer than what came in: it says more and counts as full. Else prove '..UptoSaid'. A law counts once. -/
mutual
def uptoBulk {H : Type} : DataW H → Nat
  | .lit (.string bytes) => bytes.length + 1
  | .lit _ => 1
  | .nil => 1
  | .ptr d => uptoBulk d + 1
  | .slice elems spare => uptoBulkAll elems + uptoBulkAll spare + 1
  | .agg parts => uptoBulkAll parts + 1
  | .iface _ d => uptoBulk d + 1
  | .map entries => uptoBulkEntries entries + 1
  | .held _ => 1
def uptoBulkAll {H : Type} : List (DataW H) → Nat
  | [] => 0
  | d :: r => uptoBulk d + uptoBulkAll r
def uptoBulkEntries {H : Type} : List (Lit × DataW H) → Nat
  | [] => 0
  | x :: r => uptoBulkEntry x + uptoBulkEntries r
def uptoBulkEntry {H : Type} : Lit × DataW H → Nat
  | (.string bytes, d) => bytes.length + uptoBulk d + 1
  | (_, d) => uptoBulk d + 1
 end
def uptoSmall : (H : Type) → List (DataW H) → Bool := fun _ ds => decide (uptoBulkAll ds ≤ 1048576)
def OpenSpec.upto (s : _root_.Go.ChangeSpec) : _root_.Go.OpenSpec := { _root_.Go.OpenSpec.ofChange s with cond := some uptoSmall }

/-- 'halyardlaw2.VintTakes', WHERE WHAT IT READS IS OF BULK AT MOST 1048576: true; the input reads as it did. -/
def vintTakesUptoRow : OpenClaim := { program := "ytbjpbnflioiccaa", sum := "52d7d51f3bb66263fe9213690e4e7c1275d5a0247bf286038e5ca75ec5a79327", func := "halyard/halyardlaw2.VintTakes", spec := "vintTakes", apart := false, narrowed := true }
def VintTakesUptoSaid : Prop := vintTakesUptoRow.holds Try.pinned (OpenSpec.upto vintTakesSpec)

/-- 'halyardlaw2.VintFixed', WHERE WHAT IT READS IS OF BULK AT MOST 1048576: true; the input reads as it did. -/
def vintFixedUptoRow : OpenClaim := { program := "ytbjpbnflioiccaa", sum := "52d7d51f3bb66263fe9213690e4e7c1275d5a0247bf286038e5ca75ec5a79327", func := "halyard/halyardlaw2.VintFixed", spec := "vintFixed", apart := false, narrowed := true }
def VintFixedUptoSaid : Prop := vintFixedUptoRow.holds Try.pinned (OpenSpec.upto vintFixedSpec)

/-- 'halyardlaw2.VintBytes', WHERE WHAT IT READS IS OF BULK AT MOST 1048576: true; the input reads as it did. -/
def vintBytesUptoRow : OpenClaim := { program := "ytbjpbnflioiccaa", sum := "52d7d51f3bb66263fe9213690e4e7c1275d5a0247bf286038e5ca75ec5a79327", func := "halyard/halyardlaw2.VintBytes", spec := "vintBytes", apart := false, narrowed := true }
def VintBytesUptoSaid : Prop := vintBytesUptoRow.holds Try.pinned (OpenSpec.upto vintBytesSpec)

/-- 'halyardlaw2.VintRows', WHERE WHAT IT READS IS OF BULK AT MOST 1048576: true; the input reads as it did. -/
def vintRowsUptoRow : OpenClaim := { program := "ytbjpbnflioiccaa", sum := "52d7d51f3bb66263fe9213690e4e7c1275d5a0247bf286038e5ca75ec5a79327", func := "halyard/halyardlaw2.VintRows", spec := "vintRows", apart := false, narrowed := true }
def VintRowsUptoSaid : Prop := vintRowsUptoRow.holds Try.pinned (OpenSpec.upto vintRowsSpec)

/-- 'halyardlaw2.VintLengths', WHERE WHAT IT READS IS OF BULK AT MOST 1048576: true; the input reads as it did. -/
def vintLengthsUptoRow : OpenClaim := { program := "ytbjpbnflioiccaa", sum := "52d7d51f3bb66263fe9213690e4e7c1275d5a0247bf286038e5ca75ec5a79327", func := "halyard/halyardlaw2.VintLengths", spec := "vintLengths", apart := false, narrowed := true }
def VintLengthsUptoSaid : Prop := vintLengthsUptoRow.holds Try.pinned (OpenSpec.upto vintLengthsSpec)

/-- 'halyardlaw2.VintNeedless', WHERE WHAT IT READS IS OF BULK AT MOST 1048576: true; the input reads as it did. -/
def vintNeedlessUptoRow : OpenClaim := { program := "ytbjpbnflioiccaa", sum := "52d7d51f3bb66263fe9213690e4e7c1275d5a0247bf286038e5ca75ec5a79327", func := "halyard/halyardlaw2.VintNeedless", spec := "vintNeedless", apart := false, narrowed := true }
def VintNeedlessUptoSaid : Prop := vintNeedlessUptoRow.holds Try.pinned (OpenSpec.upto vintNeedlessSpec)

/-- 'halyardlaw2.VintBack', WHERE WHAT IT READS IS OF BULK AT MOST 1048576: true; the input reads as it did. -/
def vintBackUptoRow : OpenClaim := { program := "ytbjpbnflioiccaa", sum := "52d7d51f3bb66263fe9213690e4e7c1275d5a0247bf286038e5ca75ec5a79327", func := "halyard/halyardlaw2.VintBack", spec := "vintBack", apart := false, narrowed := true }
def VintBackUptoSaid : Prop := vintBackUptoRow.holds Try.pinned (OpenSpec.upto vintBackSpec)

/-- 'halyardlaw2.VintGrows', WHERE WHAT IT READS IS OF BULK AT MOST 1048576: true; the input reads as it did. -/
def vintGrowsUptoRow : OpenClaim := { program := "ytbjpbnflioiccaa", sum := "52d7d51f3bb66263fe9213690e4e7c1275d5a0247bf286038e5ca75ec5a79327", func := "halyard/halyardlaw2.VintGrows", spec := "vintGrows", apart := false, narrowed := true }
def VintGrowsUptoSaid : Prop := vintGrowsUptoRow.holds Try.pinned (OpenSpec.upto vintGrowsSpec)

end Rows
end Go.Proofs.Ytbjpbnflioiccaa
