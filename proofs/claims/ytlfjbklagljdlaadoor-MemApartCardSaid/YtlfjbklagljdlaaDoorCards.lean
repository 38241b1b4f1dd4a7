/-
  DERIVED. GIVEN WITH THE SEED: THE CARDS: each row of YtlfjbklagljdlaaDoorRows.lean that lists a variable, with what it lists TIED to the program's text (the seventh form; the later family's looks); each row that meets fmt, with fmt's text TOLD by the authors' own Lean function (tested against real Go, not proved from fmt's source: count such statements apart). THE CARD IS WHAT COUNTS. Prove the row's statement (the work); the ties are given (YtlfjbklagljdlaaDoorTie.lean); close each card by the builder's one call (the guide's Derived/Test/ToyasCard.lean, 'card_holds'). Laid BY PROGRAM, IN A SANDBOX (cutbox-door.mjs). By AI agents, Wed Nov 11 2026. No macro, syntax, notation, axiom, sorry.
-/
import Derived.Test.YtlfjbklagljdlaaDoorRows
import GoSem.ClaimSeven
namespace Go.Proofs.YtlfjbklagljdlaaDoor
namespace Rows

/-- THE TIED CARD OF 'halyardlaw9.MemGets'. -/
def memGetsCard : Claim7 := { stood := { row := memGetsRow, standIns := [], harness := (true, "4d9b6d4d09f1d27cc2a9ad4002052f7c29cddde769d809d93f56139a8438a40c"), looks := false }, kinds := [], alts := [], laidByText := true, laidKinds := [.data], laidTests := true, laidLooks := .later }
def MemGetsCardSaid : Prop := Claim7.holds Tryd.pinned (.plain (OpenSpec.ofChange memGetsSpec)) memGetsCard

/-- THE TIED CARD OF 'halyardlaw9.MemCuts'. -/
def memCutsCard : Claim7 := { stood := { row := memCutsRow, standIns := [], harness := (true, "4d9b6d4d09f1d27cc2a9ad4002052f7c29cddde769d809d93f56139a8438a40c"), looks := false }, kinds := [], alts := [], laidByText := true, laidKinds := [.data], laidTests := true, laidLooks := .later }
def MemCutsCardSaid : Prop := Claim7.holds Tryd.pinned (.plain (OpenSpec.ofChange memCutsSpec)) memCutsCard

/-- THE TIED CARD OF 'halyardlaw9.MemApart'. -/
def memApartCard : Claim7 := { stood := { row := memApartRow, standIns := [], harness := (true, "4d9b6d4d09f1d27cc2a9ad4002052f7c29cddde769d809d93f56139a8438a40c"), looks := false }, kinds := [], alts := [], laidByText := true, laidKinds := [.data], laidTests := true, laidLooks := .later }
def MemApartCardSaid : Prop := Claim7.holds Tryd.pinned (.plain (OpenSpec.ofChange memApartSpec)) memApartCard

/-- THE TIED CARD OF 'halyardlaw9.MemTurned'. -/
def memTurnedCard : Claim7 := { stood := { row := memTurnedRow, standIns := [], harness := (true, "4d9b6d4d09f1d27cc2a9ad4002052f7c29cddde769d809d93f56139a8438a40c"), looks := false }, kinds := [], alts := [], laidByText := true, laidKinds := [.data], laidTests := true, laidLooks := .later }
def MemTurnedCardSaid : Prop := Claim7.holds Tryd.pinned (.plain (OpenSpec.ofChange memTurnedSpec)) memTurnedCard

/-- THE TIED CARD OF 'halyardlaw9.MemAdds'. -/
def memAddsCard : Claim7 := { stood := { row := memAddsRow, standIns := [], harness := (true, "4d9b6d4d09f1d27cc2a9ad4002052f7c29cddde769d809d93f56139a8438a40c"), looks := false }, kinds := [], alts := [], laidByText := true, laidKinds := [.data], laidTests := true, laidLooks := .later }
def MemAddsCardSaid : Prop := Claim7.holds Tryd.pinned (.plain (OpenSpec.ofChange memAddsSpec)) memAddsCard

/-- THE TIED CARD OF 'halyardlaw9.MemLists'. -/
def memListsCard : Claim7 := { stood := { row := memListsRow, standIns := [], harness := (true, "4d9b6d4d09f1d27cc2a9ad4002052f7c29cddde769d809d93f56139a8438a40c"), looks := false }, kinds := [], alts := [], laidByText := true, laidKinds := [.data], laidTests := true, laidLooks := .later }
def MemListsCardSaid : Prop := Claim7.holds Tryd.pinned (.plain (OpenSpec.ofChange memListsSpec)) memListsCard

/-- THE TIED CARD OF 'halyardlaw9.MemLatest'. -/
def memLatestCard : Claim7 := { stood := { row := memLatestRow, standIns := [], harness := (true, "4d9b6d4d09f1d27cc2a9ad4002052f7c29cddde769d809d93f56139a8438a40c"), looks := false }, kinds := [], alts := [], laidByText := true, laidKinds := [.data], laidTests := true, laidLooks := .later }
def MemLatestCardSaid : Prop := Claim7.holds Tryd.pinned (.plain (OpenSpec.ofChange memLatestSpec)) memLatestCard

/-- THE TIED CARD OF 'halyardlaw9.MemNil'. -/
def memNilCard : Claim7 := { stood := { row := memNilRow, standIns := [], harness := (true, "4d9b6d4d09f1d27cc2a9ad4002052f7c29cddde769d809d93f56139a8438a40c"), looks := false }, kinds := [], alts := [], laidByText := true, laidKinds := [.data], laidTests := true, laidLooks := .later }
def MemNilCardSaid : Prop := Claim7.holds Tryd.pinned (.plain (OpenSpec.ofChange memNilSpec)) memNilCard

/-- THE SECOND FORM's CARD OF 'halyardlaw9.MemGets'. -/
def memGetsUptoCard : Claim7 := { stood := { row := memGetsUptoRow, standIns := [], harness := (true, "4d9b6d4d09f1d27cc2a9ad4002052f7c29cddde769d809d93f56139a8438a40c"), looks := false }, kinds := [], alts := [], laidByText := true, laidKinds := [.data], laidTests := true, laidLooks := .later }
def MemGetsUptoCardSaid : Prop := Claim7.holds Tryd.pinned (.plain (OpenSpec.upto memGetsSpec)) memGetsUptoCard

/-- THE SECOND FORM's CARD OF 'halyardlaw9.MemCuts'. -/
def memCutsUptoCard : Claim7 := { stood := { row := memCutsUptoRow, standIns := [], harness := (true, "4d9b6d4d09f1d27cc2a9ad4002052f7c29cddde769d809d93f56139a8438a40c"), looks := false }, kinds := [], alts := [], laidByText := true, laidKinds := [.data], laidTests := true, laidLooks := .later }
def MemCutsUptoCardSaid : Prop := Claim7.holds Tryd.pinned (.plain (OpenSpec.upto memCutsSpec)) memCutsUptoCard

/-- THE SECOND FORM's CARD OF 'halyardlaw9.MemApart'. -/
def memApartUptoCard : Claim7 := { stood := { row := memApartUptoRow, standIns := [], harness := (true, "4d9b6d4d09f1d27cc2a9ad4002052f7c29cddde769d809d93f56139a8438a40c"), looks := false }, kinds := [], alts := [], laidByText := true, laidKinds := [.data], laidTests := true, laidLooks := .later }
def MemApartUptoCardSaid : Prop := Claim7.holds Tryd.pinned (.plain (OpenSpec.upto memApartSpec)) memApartUptoCard

/-- THE SECOND FORM's CARD OF 'halyardlaw9.MemTurned'. -/
def memTurnedUptoCard : Claim7 := { stood := { row := memTurnedUptoRow, standIns := [], harness := (true, "4d9b6d4d09f1d27cc2a9ad4002052f7c29cddde769d809d93f56139a8438a40c"), looks := false }, kinds := [], alts := [], laidByText := true, laidKinds := [.data], laidTests := true, laidLooks := .later }
def MemTurnedUptoCardSaid : Prop := Claim7.holds Tryd.pinned (.plain (OpenSpec.upto memTurnedSpec)) memTurnedUptoCard

/-- THE SECOND FORM's CARD OF 'halyardlaw9.MemAdds'. -/
def memAddsUptoCard : Claim7 := { stood := { row := memAddsUptoRow, standIns := [], harness := (true, "4d9b6d4d09f1d27cc2a9ad4002052f7c29cddde769d809d93f56139a8438a40c"), looks := false }, kinds := [], alts := [], laidByText := true, laidKinds := [.data], laidTests := true, laidLooks := .later }
def MemAddsUptoCardSaid : Prop := Claim7.holds Tryd.pinned (.plain (OpenSpec.upto memAddsSpec)) memAddsUptoCard

/-- THE SECOND FORM's CARD OF 'halyardlaw9.MemLists'. -/
def memListsUptoCard : Claim7 := { stood := { row := memListsUptoRow, standIns := [], harness := (true, "4d9b6d4d09f1d27cc2a9ad4002052f7c29cddde769d809d93f56139a8438a40c"), looks := false }, kinds := [], alts := [], laidByText := true, laidKinds := [.data], laidTests := true, laidLooks := .later }
def MemListsUptoCardSaid : Prop := Claim7.holds Tryd.pinned (.plain (OpenSpec.upto memListsSpec)) memListsUptoCard

/-- THE SECOND FORM's CARD OF 'halyardlaw9.MemLatest'. -/
def memLatestUptoCard : Claim7 := { stood := { row := memLatestUptoRow, standIns := [], harness := (true, "4d9b6d4d09f1d27cc2a9ad4002052f7c29cddde769d809d93f56139a8438a40c"), looks := false }, kinds := [], alts := [], laidByText := true, laidKinds := [.data], laidTests := true, laidLooks := .later }
def MemLatestUptoCardSaid : Prop := Claim7.holds Tryd.pinned (.plain (OpenSpec.upto memLatestSpec)) memLatestUptoCard

/-- THE SECOND FORM's CARD OF 'halyardlaw9.MemNil'. -/
def memNilUptoCard : Claim7 := { stood := { row := memNilUptoRow, standIns := [], harness := (true, "4d9b6d4d09f1d27cc2a9ad4002052f7c29cddde769d809d93f56139a8438a40c"), looks := false }, kinds := [], alts := [], laidByText := true, laidKinds := [.data], laidTests := true, laidLooks := .later }
def MemNilUptoCardSaid : Prop := Claim7.holds Tryd.pinned (.plain (OpenSpec.upto memNilSpec)) memNilUptoCard
end Rows
end Go.Proofs.YtlfjbklagljdlaaDoor
