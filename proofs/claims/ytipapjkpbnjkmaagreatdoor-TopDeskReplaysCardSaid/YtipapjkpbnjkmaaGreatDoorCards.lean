/-
  DERIVED. GIVEN WITH THE SEED: THE CARDS: each row of YtipapjkpbnjkmaaGreatDoorRows.lean that lists a variable, with what it lists TIED to the program's text (the seventh form; the later family's looks); each row that meets fmt, with fmt's text TOLD by the authors' own Lean function (tested against real Go, not proved from fmt's source: count such statements apart). THE CARD IS WHAT COUNTS. Prove the row's statement (the work); the ties are given (YtipapjkpbnjkmaaGreatDoorTie.lean); close each card by the builder's one call (the guide's Derived/Test/ToyasCard.lean, 'card_holds'). Laid BY PROGRAM, IN A SANDBOX (cutbox-door.mjs). By AI agents, Wed Nov 11 2026. No macro, syntax, notation, axiom, sorry.
-/
import Derived.Test.YtipapjkpbnjkmaaGreatDoorRows
import GoSem.ClaimSeven
namespace Go.Proofs.YtipapjkpbnjkmaaGreatDoor
namespace Rows

/-- THE TIED CARD OF 'keelblocktop.TopDeskReplays'. -/
def topDeskReplaysCard : Claim7 := { stood := { row := topDeskReplaysRow, standIns := [], harness := (true, "8dddd238b13c7dc964fe6cb3b2d0df5a7e5cfbb3ba6d5d8a1d56b7bb556e1613"), looks := true }, kinds := [], alts := [], laidByText := true, laidKinds := [.data, .data, .data, .data, .sentinel, .sentinel, .pinned], laidTests := true, laidLooks := .later }
def TopDeskReplaysCardSaid : Prop := Claim7.holds Tryz.pinned (.plain (OpenSpec.ofChange topDeskReplaysSpec)) topDeskReplaysCard

/-- THE SECOND FORM's CARD OF 'keelblocktop.TopDeskReplays'. -/
def topDeskReplaysUptoCard : Claim7 := { stood := { row := topDeskReplaysUptoRow, standIns := [], harness := (true, "8dddd238b13c7dc964fe6cb3b2d0df5a7e5cfbb3ba6d5d8a1d56b7bb556e1613"), looks := true }, kinds := [], alts := [], laidByText := true, laidKinds := [.data, .data, .data, .data, .sentinel, .sentinel, .pinned], laidTests := true, laidLooks := .later }
def TopDeskReplaysUptoCardSaid : Prop := Claim7.holds Tryz.pinned (.plain (OpenSpec.upto topDeskReplaysSpec)) topDeskReplaysUptoCard
end Rows
end Go.Proofs.YtipapjkpbnjkmaaGreatDoor
