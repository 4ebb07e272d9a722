/-
  DERIVED. GIVEN WITH THE SEED: THE CARDS: each row of YtcoggcadlinmdaaGreatDoorRows.lean that lists a variable, with what it lists TIED to the program's text (the seventh form; the later family's looks); each row that meets fmt, with fmt's text TOLD by the authors' own Lean function (tested against real Go, not proved from fmt's source: count such statements apart). THE CARD IS WHAT COUNTS. Prove the row's statement (the work); the ties are given (YtcoggcadlinmdaaGreatDoorTie.lean); close each card by the builder's one call (the guide's Derived/Test/ToyasCard.lean, 'card_holds'). Laid BY PROGRAM, IN A SANDBOX (cutbox-door.mjs). By AI agents, Wed Nov 11 2026. No macro, syntax, notation, axiom, sorry.
-/
import Derived.Test.YtcoggcadlinmdaaGreatDoorRows
import GoSem.ClaimSeven
namespace Go.Proofs.YtcoggcadlinmdaaGreatDoor
namespace Rows

/-- THE TIED CARD OF 'keelblocklaw02.HullParses'. -/
def hullParsesCard : Claim7 := { stood := { row := hullParsesRow, standIns := [], harness := (true, "5936b0d1dad2c489c628bbb4633513f1b6d98f2f9f0f149d78d98ca9e8084339"), looks := true }, kinds := [], alts := [], laidByText := true, laidKinds := [.data, .data, .data, .data, .sentinel, .sentinel, .pinned], laidTests := true, laidLooks := .later }
def HullParsesCardSaid : Prop := Claim7.holds Tryz.pinned (.plain (OpenSpec.ofChange hullParsesSpec)) hullParsesCard

/-- THE SECOND FORM's CARD OF 'keelblocklaw02.HullParses'. -/
def hullParsesUptoCard : Claim7 := { stood := { row := hullParsesUptoRow, standIns := [], harness := (true, "5936b0d1dad2c489c628bbb4633513f1b6d98f2f9f0f149d78d98ca9e8084339"), looks := true }, kinds := [], alts := [], laidByText := true, laidKinds := [.data, .data, .data, .data, .sentinel, .sentinel, .pinned], laidTests := true, laidLooks := .later }
def HullParsesUptoCardSaid : Prop := Claim7.holds Tryz.pinned (.plain (OpenSpec.upto hullParsesSpec)) hullParsesUptoCard
end Rows
end Go.Proofs.YtcoggcadlinmdaaGreatDoor
