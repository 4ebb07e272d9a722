/-
  DERIVED. GIVEN WITH THE SEED: THE CARDS: each row of YtkflmfhgpjpepaaGreatDoorRows.lean that lists a variable, with what it lists TIED to the program's text (the seventh form; the later family's looks); each row that meets fmt, with fmt's text TOLD by the authors' own Lean function (tested against real Go, not proved from fmt's source: count such statements apart). THE CARD IS WHAT COUNTS. Prove the row's statement (the work); the ties are given (YtkflmfhgpjpepaaGreatDoorTie.lean); close each card by the builder's one call (the guide's Derived/Test/ToyasCard.lean, 'card_holds'). Laid BY PROGRAM, IN A SANDBOX (cutbox-door.mjs). By AI agents, Wed Nov 11 2026. No macro, syntax, notation, axiom, sorry.
-/
import Derived.Test.YtkflmfhgpjpepaaGreatDoorRows
import GoSem.ClaimSeven
namespace Go.Proofs.YtkflmfhgpjpepaaGreatDoor
namespace Rows

/-- THE TIED CARD OF 'keelblocktop.TopCrashedBook'. -/
def topCrashedBookCard : Claim7 := { stood := { row := topCrashedBookRow, standIns := [], harness := (true, "3f116f1a9bb2a38294e0f161bca734065db97c2136d8eff0568d788722853523"), looks := true }, kinds := [], alts := [], laidByText := true, laidKinds := [.data, .data, .data, .data, .sentinel, .sentinel, .pinned], laidTests := true, laidLooks := .later }
def TopCrashedBookCardSaid : Prop := Claim7.holds Tryz.pinned (.plain (OpenSpec.ofChange topCrashedBookSpec)) topCrashedBookCard

/-- THE SECOND FORM's CARD OF 'keelblocktop.TopCrashedBook'. -/
def topCrashedBookUptoCard : Claim7 := { stood := { row := topCrashedBookUptoRow, standIns := [], harness := (true, "3f116f1a9bb2a38294e0f161bca734065db97c2136d8eff0568d788722853523"), looks := true }, kinds := [], alts := [], laidByText := true, laidKinds := [.data, .data, .data, .data, .sentinel, .sentinel, .pinned], laidTests := true, laidLooks := .later }
def TopCrashedBookUptoCardSaid : Prop := Claim7.holds Tryz.pinned (.plain (OpenSpec.upto topCrashedBookSpec)) topCrashedBookUptoCard
end Rows
end Go.Proofs.YtkflmfhgpjpepaaGreatDoor
