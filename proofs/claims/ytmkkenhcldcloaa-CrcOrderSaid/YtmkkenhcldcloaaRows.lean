/-
  No cell of these rows narrows 'for every input' (looked for: loops, veiled, ifaces, maps, wideKeys, modest, calm, conditions, laid).
  DERIVED. THE GIVEN ROWS OF THIS SEAT. 5 by the template 'for every input the law returns true; each argument reads behind the call as it read before'; 0 by the template 'total and deterministic' (their statements: YtmkkenhcldcloaaTotals.lean).
  GIVEN WITH THE SEED: the statements are not yours to turn. If you find one false, say at which input.
  Laid BY PROGRAM, IN A SANDBOX (cutbox-rows.mjs): the forced cells as the released guide's own fill.sh prints them over the translation bd0b2feb505964b6… (all of the seat's roots in one cut). By AI agents, Wed Nov 11 2026. No macro, syntax, notation, axiom, sorry.
-/
import Derived.Test.YtmkkenhcldcloaaChecked
import GoSem.Claim
import GoSem.ClaimJoined
import GoSem.ClaimMapViews
import Derived.JoinedTies
import Derived.KernelRfl
namespace Go.Proofs.Ytmkkenhcldcloaa
/- THE CELL 'sum', in the pinned program and in every row, IS THE sha256 OF THE DUMP (.gsa) THAT YtmkkenhcldcloaaProg.lean LOADS. Nothing in Lean hashes anything: it is a label: what it is worth is what the hold of that sum in a sandbox is worth. -/
noncomputable def Try.pinned : Pinned := { name := "ytmkkenhcldcloaa", sum := "bd0b2feb505964b65e2ef96363c11f7d0920324d85dceb8b767f999ec6df0b56", checked := Try.checked }
namespace Rows
def none {H : Type} : Left H := { results := [], args := [] }

/-- 'halyardlaw3.CrcSums': WHATEVER THE INPUT: true; the input reads as it did. -/
def crcSumsSpec : ChangeSpec := { name := "crcSums", fn := fun _ => fun
  | [d1, d2] => { results := [.lit (.bool true)], args := [d1, d2] }
  | _ => none }
def crcSumsRow : OpenClaim := { program := "ytmkkenhcldcloaa", sum := "bd0b2feb505964b65e2ef96363c11f7d0920324d85dceb8b767f999ec6df0b56", func := "halyard/halyardlaw3.CrcSums", spec := "crcSums", apart := false }
def CrcSumsSaid : Prop := crcSumsRow.holds Try.pinned (OpenSpec.ofChange crcSumsSpec)

/-- ITS FALSE NEIGHBOUR: 'it returns false'. Refute it at one input. -/
def crcSumsWrong : ChangeSpec := { name := "crcSums", fn := fun _ => fun
  | [d1, d2] => { results := [.lit (.bool false)], args := [d1, d2] }
  | _ => none }
def CrcSumsWrongFalsely : Prop := crcSumsRow.holds Try.pinned (OpenSpec.ofChange crcSumsWrong)

/-- 'halyardlaw3.CrcGoesOn': WHATEVER THE INPUT: true; the input reads as it did. -/
def crcGoesOnSpec : ChangeSpec := { name := "crcGoesOn", fn := fun _ => fun
  | [d] => { results := [.lit (.bool true)], args := [d] }
  | _ => none }
def crcGoesOnRow : OpenClaim := { program := "ytmkkenhcldcloaa", sum := "bd0b2feb505964b65e2ef96363c11f7d0920324d85dceb8b767f999ec6df0b56", func := "halyard/halyardlaw3.CrcGoesOn", spec := "crcGoesOn", apart := false }
def CrcGoesOnSaid : Prop := crcGoesOnRow.holds Try.pinned (OpenSpec.ofChange crcGoesOnSpec)

/-- ITS FALSE NEIGHBOUR: 'it returns false'. Refute it at one input. -/
def crcGoesOnWrong : ChangeSpec := { name := "crcGoesOn", fn := fun _ => fun
  | [d] => { results := [.lit (.bool false)], args := [d] }
  | _ => none }
def CrcGoesOnWrongFalsely : Prop := crcGoesOnRow.holds Try.pinned (OpenSpec.ofChange crcGoesOnWrong)

/-- 'halyardlaw3.CrcTells': WHATEVER THE INPUT: true; the input reads as it did. -/
def crcTellsSpec : ChangeSpec := { name := "crcTells", fn := fun _ => fun
  | [d1, d2, d3] => { results := [.lit (.bool true)], args := [d1, d2, d3] }
  | _ => none }
def crcTellsRow : OpenClaim := { program := "ytmkkenhcldcloaa", sum := "bd0b2feb505964b65e2ef96363c11f7d0920324d85dceb8b767f999ec6df0b56", func := "halyard/halyardlaw3.CrcTells", spec := "crcTells", apart := false }
def CrcTellsSaid : Prop := crcTellsRow.holds Try.pinned (OpenSpec.ofChange crcTellsSpec)

/-- ITS FALSE NEIGHBOUR: 'it returns false'. Refute it at one input. -/
def crcTellsWrong : ChangeSpec := { name := "crcTells", fn := fun _ => fun
  | [d1, d2, d3] => { results := [.lit (.bool false)], args := [d1, d2, d3] }
  | _ => none }
def CrcTellsWrongFalsely : Prop := crcTellsRow.holds Try.pinned (OpenSpec.ofChange crcTellsWrong)

/-- 'halyardlaw3.CrcOrder': WHATEVER THE INPUT: true; the input reads as it did. -/
def crcOrderSpec : ChangeSpec := { name := "crcOrder", fn := fun _ => fun
  | [d1, d2] => { results := [.lit (.bool true)], args := [d1, d2] }
  | _ => none }
def crcOrderRow : OpenClaim := { program := "ytmkkenhcldcloaa", sum := "bd0b2feb505964b65e2ef96363c11f7d0920324d85dceb8b767f999ec6df0b56", func := "halyard/halyardlaw3.CrcOrder", spec := "crcOrder", apart := false }
def CrcOrderSaid : Prop := crcOrderRow.holds Try.pinned (OpenSpec.ofChange crcOrderSpec)

/-- ITS FALSE NEIGHBOUR: 'it returns false'. Refute it at one input. -/
def crcOrderWrong : ChangeSpec := { name := "crcOrder", fn := fun _ => fun
  | [d1, d2] => { results := [.lit (.bool false)], args := [d1, d2] }
  | _ => none }
def CrcOrderWrongFalsely : Prop := crcOrderRow.holds Try.pinned (OpenSpec.ofChange crcOrderWrong)

/-- 'halyardlaw3.CrcMasks': WHATEVER THE INPUT: true; the input reads as it did. -/
def crcMasksSpec : ChangeSpec := { name := "crcMasks", fn := fun _ => fun
  | [d] => { results := [.lit (.bool true)], args := [d] }
  | _ => none }
def crcMasksRow : OpenClaim := { program := "ytmkkenhcldcloaa", sum := "bd0b2feb505964b65e2ef96363c11f7d0920324d85dceb8b767f999ec6df0b56", func := "halyard/halyardlaw3.CrcMasks", spec := "crcMasks", apart := false }
def CrcMasksSaid : Prop := crcMasksRow.holds Try.pinned (OpenSpec.ofChange crcMasksSpec)

/-- ITS FALSE NEIGHBOUR: 'it returns false'. Refute it at one input. -/
def crcMasksWrong : ChangeSpec := { name := "crcMasks", fn := fun _ => fun
  | [d] => { results := [.lit (.bool false)], args := [d] }
  | _ => none }
def CrcMasksWrongFalsely : Prop := crcMasksRow.holds Try.pinned (OpenSpec.ofChange crcMasksWrong)

/- THE SECOND FORM. 'bulk': how many values and letters a reading holds, each counted each time it is reached (what is shared counts as often as it is met; a slice's spare places count too). A statement '..UptoSaid' is the law's where the arguments, and the package variables that the reading takes, are together of bulk at most 1048576: NARROWER than '..Said'. Prove '..Said' where nothing that the law and all that it calls make is longer than what came in: it says more and counts as full. Else prove '..UptoSaid'. A law counts once. -/
mutual
def uptoBulk {H : Type} : DataW H → Nat
  | .lit (.string bytes) => bytes.length + 1
  | .lit _ => 1
  | .nil => 1
  | .ptr d => uptoBulk d + 1
  | .slice elems spare => uptoBulkAll elems + uptoBulkAll spare + 1
  | .agg parts => uptoBulkAll parts + 1
  | .iface _ d => uptoBulk d + 1
  | .map entries => uptoBulkEntries entries + 1
  | .held _ => 1
def uptoBulkAll {H : Type} : List (DataW H) → Nat
  | [] => 0
  | d :: r => uptoBulk d + uptoBulkAll r
def uptoBulkEntries {H : Type} : List (Lit × DataW H) → Nat
  | [] => 0
  | x :: r => uptoBulkEntry x + uptoBulkEntries r
def uptoBulkEntry {H : Type} : Lit × DataW H → Nat
  | (.string bytes, d) => bytes.length + uptoBulk d + 1
  | (_, d) => uptoBulk d + 1
 end
def uptoSmall : (H : Type) → List (DataW H) → Bool := fun _ ds => decide (uptoBulkAll ds ≤ 1048576)
def OpenSpec.upto (s : _root_.Go.ChangeSpec) : _root_.Go.OpenSpec := { _root_.Go.OpenSpec.ofChange s with cond := some uptoSmall }

/-- 'halyardlaw3.CrcSums', WHERE WHAT IT READS IS OF BULK AT MOST 1048576: true; the input reads as it did. -/
def crcSumsUptoRow : OpenClaim := { program := "ytmkkenhcldcloaa", sum := "bd0b2feb505964b65e2ef96363c11f7d0920324d85dceb8b767f999ec6df0b56", func := "halyard/halyardlaw3.CrcSums", spec := "crcSums", apart := false, narrowed := true }
def CrcSumsUptoSaid : Prop := crcSumsUptoRow.holds Try.pinned (OpenSpec.upto crcSumsSpec)

/-- 'halyardlaw3.CrcGoesOn', WHERE WHAT IT READS IS OF BULK AT MOST 1048576: true; the input reads as it did. -/
def crcGoesOnUptoRow : OpenClaim := { program := "ytmkkenhcldcloaa", sum := "bd0b2feb505964b65e2ef96363c11f7d0920324d85dceb8b767f999ec6df0b56", func := "halyard/halyardlaw3.CrcGoesOn", spec := "crcGoesOn", apart := false, narrowed := true }
def CrcGoesOnUptoSaid : Prop := crcGoesOnUptoRow.holds Try.pinned (OpenSpec.upto crcGoesOnSpec)

/-- 'halyardlaw3.CrcTells', WHERE WHAT IT READS IS OF BULK AT MOST 1048576: true; the input reads as it did. -/
def crcTellsUptoRow : OpenClaim := { program := "ytmkkenhcldcloaa", sum := "bd0b2feb505964b65e2ef96363c11f7d0920324d85dceb8b767f999ec6df0b56", func := "halyard/halyardlaw3.CrcTells", spec := "crcTells", apart := false, narrowed := true }
def CrcTellsUptoSaid : Prop := crcTellsUptoRow.holds Try.pinned (OpenSpec.upto crcTellsSpec)

/-- 'halyardlaw3.CrcOrder', WHERE WHAT IT READS IS OF BULK AT MOST 1048576: true; the input reads as it did. -/
def crcOrderUptoRow : OpenClaim := { program := "ytmkkenhcldcloaa", sum := "bd0b2feb505964b65e2ef96363c11f7d0920324d85dceb8b767f999ec6df0b56", func := "halyard/halyardlaw3.CrcOrder", spec := "crcOrder", apart := false, narrowed := true }
def CrcOrderUptoSaid : Prop := crcOrderUptoRow.holds Try.pinned (OpenSpec.upto crcOrderSpec)

/-- 'halyardlaw3.CrcMasks', WHERE WHAT IT READS IS OF BULK AT MOST 1048576: true; the input reads as it did. -/
def crcMasksUptoRow : OpenClaim := { program := "ytmkkenhcldcloaa", sum := "bd0b2feb505964b65e2ef96363c11f7d0920324d85dceb8b767f999ec6df0b56", func := "halyard/halyardlaw3.CrcMasks", spec := "crcMasks", apart := false, narrowed := true }
def CrcMasksUptoSaid : Prop := crcMasksUptoRow.holds Try.pinned (OpenSpec.upto crcMasksSpec)

end Rows
end Go.Proofs.Ytmkkenhcldcloaa
