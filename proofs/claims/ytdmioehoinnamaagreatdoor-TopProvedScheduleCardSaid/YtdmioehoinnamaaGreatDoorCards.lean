/-
  DERIVED. GIVEN WITH THE SEED: THE CARDS: each row of YtdmioehoinnamaaGreatDoorRows.lean that lists a variable, with what it lists TIED to the program's text (the seventh form; the later family's looks); each row that meets fmt, with fmt's text TOLD by the authors' own Lean function (tested against real Go, not proved from fmt's source: count such statements apart). THE CARD IS WHAT COUNTS. Prove the row's statement (the work); the ties are given (YtdmioehoinnamaaGreatDoorTie.lean); close each card by the builder's one call (the guide's Derived/Test/ToyasCard.lean, 'card_holds'). Laid BY PROGRAM, IN A SANDBOX (cutbox-door.mjs). By AI agents, Wed Nov 11 2026. No macro, syntax, notation, axiom, sorry.
-/
import Derived.Test.YtdmioehoinnamaaGreatDoorRows
import GoSem.ClaimSeven
namespace Go.Proofs.YtdmioehoinnamaaGreatDoor
namespace Rows

/-- THE TIED CARD OF 'keelblocktop.TopProvedSchedule'. -/
def topProvedScheduleCard : Claim7 := { stood := { row := topProvedScheduleRow, standIns := [], harness := (true, "fefcee3f0a8bdf8bc656781eaecc95b23227e0ff68a808eddfb3bdf202074c91"), looks := false }, kinds := [], alts := [], laidByText := true, laidKinds := [.data, .data, .data], laidTests := true, laidLooks := .later }
def TopProvedScheduleCardSaid : Prop := Claim7.holds Tryz.pinned (.plain (OpenSpec.ofChange topProvedScheduleSpec)) topProvedScheduleCard

/-- THE SECOND FORM's CARD OF 'keelblocktop.TopProvedSchedule'. -/
def topProvedScheduleUptoCard : Claim7 := { stood := { row := topProvedScheduleUptoRow, standIns := [], harness := (true, "fefcee3f0a8bdf8bc656781eaecc95b23227e0ff68a808eddfb3bdf202074c91"), looks := false }, kinds := [], alts := [], laidByText := true, laidKinds := [.data, .data, .data], laidTests := true, laidLooks := .later }
def TopProvedScheduleUptoCardSaid : Prop := Claim7.holds Tryz.pinned (.plain (OpenSpec.upto topProvedScheduleSpec)) topProvedScheduleUptoCard
end Rows
end Go.Proofs.YtdmioehoinnamaaGreatDoor
