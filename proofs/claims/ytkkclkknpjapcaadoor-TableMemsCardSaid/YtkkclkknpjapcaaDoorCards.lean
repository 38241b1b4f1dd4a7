/-
  DERIVED. GIVEN WITH THE SEED: THE CARDS: each row of YtkkclkknpjapcaaDoorRows.lean that lists a variable, with what it lists TIED to the program's text (the seventh form; the later family's looks); each row that meets fmt, with fmt's text TOLD by the authors' own Lean function (tested against real Go, not proved from fmt's source: count such statements apart). THE CARD IS WHAT COUNTS. Prove the row's statement (the work); the ties are given (YtkkclkknpjapcaaDoorTie.lean); close each card by the builder's one call (the guide's Derived/Test/ToyasCard.lean, 'card_holds'). Laid BY PROGRAM, IN A SANDBOX (cutbox-door.mjs). By AI agents, Wed Nov 11 2026. No macro, syntax, notation, axiom, sorry.
-/
import Derived.Test.YtkkclkknpjapcaaDoorRows
import GoSem.ClaimSeven
namespace Go.Proofs.YtkkclkknpjapcaaDoor
namespace Rows

/-- THE TIED CARD OF 'halyardlaw12.TableMems'. -/
def tableMemsCard : Claim7 := { stood := { row := tableMemsRow, standIns := [], harness := (true, "0dcedfef6882075a6a4f8cbd5ef0f56295e7aa66fd1e5e93671f3dcf0ce8d756"), looks := false }, kinds := [], alts := [], laidByText := true, laidKinds := [.data], laidTests := true, laidLooks := .later }
def TableMemsCardSaid : Prop := Claim7.holds Tryd.pinned (.plain (OpenSpec.ofChange tableMemsSpec)) tableMemsCard

/-- THE SECOND FORM's CARD OF 'halyardlaw12.TableMems'. -/
def tableMemsUptoCard : Claim7 := { stood := { row := tableMemsUptoRow, standIns := [], harness := (true, "0dcedfef6882075a6a4f8cbd5ef0f56295e7aa66fd1e5e93671f3dcf0ce8d756"), looks := false }, kinds := [], alts := [], laidByText := true, laidKinds := [.data], laidTests := true, laidLooks := .later }
def TableMemsUptoCardSaid : Prop := Claim7.holds Tryd.pinned (.plain (OpenSpec.upto tableMemsSpec)) tableMemsUptoCard
end Rows
end Go.Proofs.YtkkclkknpjapcaaDoor
