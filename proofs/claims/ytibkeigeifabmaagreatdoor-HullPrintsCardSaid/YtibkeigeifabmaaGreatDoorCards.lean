/-
  DERIVED. GIVEN WITH THE SEED: THE CARDS: each row of YtibkeigeifabmaaGreatDoorRows.lean that lists a variable, with what it lists TIED to the program's text (the seventh form; the later family's looks); each row that meets fmt, with fmt's text TOLD by the authors' own Lean function (tested against real Go, not proved from fmt's source: count such statements apart). THE CARD IS WHAT COUNTS. Prove the row's statement (the work); the ties are given (YtibkeigeifabmaaGreatDoorTie.lean); close each card by the builder's one call (the guide's Derived/Test/ToyasCard.lean, 'card_holds'). Laid BY PROGRAM, IN A SANDBOX (cutbox-door.mjs). By AI agents, Wed Nov 11 2026. No macro, syntax, notation, axiom, sorry.
-/
import Derived.Test.YtibkeigeifabmaaGreatDoorRows
import GoSem.ClaimSeven
namespace Go.Proofs.YtibkeigeifabmaaGreatDoor
namespace Rows

/-- THE TIED CARD OF 'keelblocklaw02.HullPrints'. -/
def hullPrintsCard : Claim7 := { stood := { row := hullPrintsRow, standIns := [], harness := (true, "a64c89d8a4b016f1ee60abb39fb0d7c70f4796b0877bd3dc46b8e34bdf9a4483"), looks := true }, kinds := [], alts := [], laidByText := true, laidKinds := [.data, .data, .data, .data, .sentinel, .sentinel, .pinned], laidTests := true, laidLooks := .later }
def HullPrintsCardSaid : Prop := Claim7.holds Tryz.pinned (.plain (OpenSpec.ofChange hullPrintsSpec)) hullPrintsCard

/-- THE SECOND FORM's CARD OF 'keelblocklaw02.HullPrints'. -/
def hullPrintsUptoCard : Claim7 := { stood := { row := hullPrintsUptoRow, standIns := [], harness := (true, "a64c89d8a4b016f1ee60abb39fb0d7c70f4796b0877bd3dc46b8e34bdf9a4483"), looks := true }, kinds := [], alts := [], laidByText := true, laidKinds := [.data, .data, .data, .data, .sentinel, .sentinel, .pinned], laidTests := true, laidLooks := .later }
def HullPrintsUptoCardSaid : Prop := Claim7.holds Tryz.pinned (.plain (OpenSpec.upto hullPrintsSpec)) hullPrintsUptoCard
end Rows
end Go.Proofs.YtibkeigeifabmaaGreatDoor
