/-
  DERIVED. GIVEN WITH THE SEED: THE CARDS: each row of YtochfcfkpachcaaGreatDoorRows.lean that lists a variable, with what it lists TIED to the program's text (the seventh form; the later family's looks); each row that meets fmt, with fmt's text TOLD by the authors' own Lean function (tested against real Go, not proved from fmt's source: count such statements apart). THE CARD IS WHAT COUNTS. Prove the row's statement (the work); the ties are given (YtochfcfkpachcaaGreatDoorTie.lean); close each card by the builder's one call (the guide's Derived/Test/ToyasCard.lean, 'card_holds'). Laid BY PROGRAM, IN A SANDBOX (cutbox-door.mjs). By AI agents, Wed Nov 11 2026. No macro, syntax, notation, axiom, sorry.
-/
import Derived.Test.YtochfcfkpachcaaGreatDoorRows
import GoSem.ClaimSeven
namespace Go.Proofs.YtochfcfkpachcaaGreatDoor
namespace Rows

/-- THE TIED CARD OF 'keelblocklaw07.PermitLog'. -/
def permitLogCard : Claim7 := { stood := { row := permitLogRow, standIns := [], harness := (true, "aabe8aeeb6a474e7bd2632fc6dea931649a075fb5fdecd3499ff2d408f07c3b5"), looks := true }, kinds := [], alts := [], laidByText := true, laidKinds := [.data, .data, .data, .data, .sentinel, .sentinel, .pinned], laidTests := true, laidLooks := .later }
def PermitLogCardSaid : Prop := Claim7.holds Tryz.pinned (.plain (OpenSpec.ofChange permitLogSpec)) permitLogCard

/-- THE SECOND FORM's CARD OF 'keelblocklaw07.PermitLog'. -/
def permitLogUptoCard : Claim7 := { stood := { row := permitLogUptoRow, standIns := [], harness := (true, "aabe8aeeb6a474e7bd2632fc6dea931649a075fb5fdecd3499ff2d408f07c3b5"), looks := true }, kinds := [], alts := [], laidByText := true, laidKinds := [.data, .data, .data, .data, .sentinel, .sentinel, .pinned], laidTests := true, laidLooks := .later }
def PermitLogUptoCardSaid : Prop := Claim7.holds Tryz.pinned (.plain (OpenSpec.upto permitLogSpec)) permitLogUptoCard
end Rows
end Go.Proofs.YtochfcfkpachcaaGreatDoor
