/-
  NARROWER THAN 'FOR EVERY INPUT', by the rows' own cells (each row's printed sentence says how): SurveyCuts: loops.
  DERIVED. THE GIVEN ROWS OF THIS SEAT. 11 by the template 'for every input the law returns true; each argument reads behind the call as it read before'; 0 by the template 'total and deterministic' (their statements: YtcpcedbnpieebaaTotals.lean).
  GIVEN WITH THE SEED: the statements are not yours to turn. If you find one false, say at which input.
  Laid BY PROGRAM, IN A SANDBOX (cutbox-rows.mjs): the forced cells as the released guide's own fill.sh prints them over the translation ea5aa1b3a645b6d9… (all of the seat's roots in one cut). By AI agents, Wed Nov 11 2026. No macro, syntax, notation, axiom, sorry.
-/
import Derived.Test.YtcpcedbnpieebaaChecked
import GoSem.Claim
import GoSem.ClaimJoined
import GoSem.ClaimMapViews
import Derived.JoinedTies
import Derived.KernelRfl
namespace Go.Proofs.Ytcpcedbnpieebaa
/- THE CELL 'sum', in the pinned program and in every row, IS THE sha256 OF THE DUMP (.gsa) THAT YtcpcedbnpieebaaProg.lean LOADS. Nothing in Lean hashes anything: it is a label: what it is worth is what the hold of that sum in a sandbox is worth. -/
noncomputable def Try.pinned : Pinned := { name := "ytcpcedbnpieebaa", sum := "ea5aa1b3a645b6d9348d30845d8af79d170280806157eb0cb47057c7f312c45d", checked := Try.checked }
namespace Rows
def none {H : Type} : Left H := { results := [], args := [] }

/-- 'keelblocklaw09.SurveyPanels': WHATEVER THE INPUT: true; the input reads as it did. -/
def surveyPanelsSpec : ChangeSpec := { name := "surveyPanels", fn := fun _ => fun
  | [d1, d2] => { results := [.lit (.bool true)], args := [d1, d2] }
  | _ => none }
def surveyPanelsRow : OpenClaim := { program := "ytcpcedbnpieebaa", sum := "ea5aa1b3a645b6d9348d30845d8af79d170280806157eb0cb47057c7f312c45d", func := "keelblock/keelblocklaw09.SurveyPanels", spec := "surveyPanels", unfollowed := true, recurses := true, apart := false }
def SurveyPanelsSaid : Prop := surveyPanelsRow.holds Try.pinned (OpenSpec.ofChange surveyPanelsSpec)

/-- ITS FALSE NEIGHBOUR: 'it returns false'. Refute it at one input. -/
def surveyPanelsWrong : ChangeSpec := { name := "surveyPanels", fn := fun _ => fun
  | [d1, d2] => { results := [.lit (.bool false)], args := [d1, d2] }
  | _ => none }
def SurveyPanelsWrongFalsely : Prop := surveyPanelsRow.holds Try.pinned (OpenSpec.ofChange surveyPanelsWrong)

/-- 'keelblocklaw09.SurveyTrials': WHATEVER THE INPUT: true; the input reads as it did. -/
def surveyTrialsSpec : ChangeSpec := { name := "surveyTrials", fn := fun _ => fun
  | [d] => { results := [.lit (.bool true)], args := [d] }
  | _ => none }
def surveyTrialsRow : OpenClaim := { program := "ytcpcedbnpieebaa", sum := "ea5aa1b3a645b6d9348d30845d8af79d170280806157eb0cb47057c7f312c45d", func := "keelblock/keelblocklaw09.SurveyTrials", spec := "surveyTrials", unfollowed := true, recurses := true, apart := false }
def SurveyTrialsSaid : Prop := surveyTrialsRow.holds Try.pinned (OpenSpec.ofChange surveyTrialsSpec)

/-- ITS FALSE NEIGHBOUR: 'it returns false'. Refute it at one input. -/
def surveyTrialsWrong : ChangeSpec := { name := "surveyTrials", fn := fun _ => fun
  | [d] => { results := [.lit (.bool false)], args := [d] }
  | _ => none }
def SurveyTrialsWrongFalsely : Prop := surveyTrialsRow.holds Try.pinned (OpenSpec.ofChange surveyTrialsWrong)

/-- 'keelblocklaw09.SurveyTrends': WHATEVER THE INPUT: true; the input reads as it did. -/
def surveyTrendsSpec : ChangeSpec := { name := "surveyTrends", fn := fun _ => fun
  | [d1, d2, d3] => { results := [.lit (.bool true)], args := [d1, d2, d3] }
  | _ => none }
def surveyTrendsRow : OpenClaim := { program := "ytcpcedbnpieebaa", sum := "ea5aa1b3a645b6d9348d30845d8af79d170280806157eb0cb47057c7f312c45d", func := "keelblock/keelblocklaw09.SurveyTrends", spec := "surveyTrends", unfollowed := true, recurses := true, apart := false }
def SurveyTrendsSaid : Prop := surveyTrendsRow.holds Try.pinned (OpenSpec.ofChange surveyTrendsSpec)

/-- ITS FALSE NEIGHBOUR: 'it returns false'. Refute it at one input. -/
def surveyTrendsWrong : ChangeSpec := { name := "surveyTrends", fn := fun _ => fun
  | [d1, d2, d3] => { results := [.lit (.bool false)], args := [d1, d2, d3] }
  | _ => none }
def SurveyTrendsWrongFalsely : Prop := surveyTrendsRow.holds Try.pinned (OpenSpec.ofChange surveyTrendsWrong)

/-- 'keelblocklaw09.SurveyRemains': WHATEVER THE INPUT: true; the input reads as it did. -/
def surveyRemainsSpec : ChangeSpec := { name := "surveyRemains", fn := fun _ => fun
  | [d1, d2, d3] => { results := [.lit (.bool true)], args := [d1, d2, d3] }
  | _ => none }
def surveyRemainsRow : OpenClaim := { program := "ytcpcedbnpieebaa", sum := "ea5aa1b3a645b6d9348d30845d8af79d170280806157eb0cb47057c7f312c45d", func := "keelblock/keelblocklaw09.SurveyRemains", spec := "surveyRemains", unfollowed := true, recurses := true, apart := false }
def SurveyRemainsSaid : Prop := surveyRemainsRow.holds Try.pinned (OpenSpec.ofChange surveyRemainsSpec)

/-- ITS FALSE NEIGHBOUR: 'it returns false'. Refute it at one input. -/
def surveyRemainsWrong : ChangeSpec := { name := "surveyRemains", fn := fun _ => fun
  | [d1, d2, d3] => { results := [.lit (.bool false)], args := [d1, d2, d3] }
  | _ => none }
def SurveyRemainsWrongFalsely : Prop := surveyRemainsRow.holds Try.pinned (OpenSpec.ofChange surveyRemainsWrong)

/-- 'keelblocklaw09.SurveyTables': WHATEVER THE INPUT: true; the input reads as it did. -/
def surveyTablesSpec : ChangeSpec := { name := "surveyTables", fn := fun _ => fun
  | [d1, d2] => { results := [.lit (.bool true)], args := [d1, d2] }
  | _ => none }
def surveyTablesRow : OpenClaim := { program := "ytcpcedbnpieebaa", sum := "ea5aa1b3a645b6d9348d30845d8af79d170280806157eb0cb47057c7f312c45d", func := "keelblock/keelblocklaw09.SurveyTables", spec := "surveyTables", unfollowed := true, recurses := true, apart := false }
def SurveyTablesSaid : Prop := surveyTablesRow.holds Try.pinned (OpenSpec.ofChange surveyTablesSpec)

/-- ITS FALSE NEIGHBOUR: 'it returns false'. Refute it at one input. -/
def surveyTablesWrong : ChangeSpec := { name := "surveyTables", fn := fun _ => fun
  | [d1, d2] => { results := [.lit (.bool false)], args := [d1, d2] }
  | _ => none }
def SurveyTablesWrongFalsely : Prop := surveyTablesRow.holds Try.pinned (OpenSpec.ofChange surveyTablesWrong)

/-- 'keelblocklaw09.SurveyClearances': WHATEVER THE INPUT: true; the input reads as it did. -/
def surveyClearancesSpec : ChangeSpec := { name := "surveyClearances", fn := fun _ => fun
  | [d1, d2, d3] => { results := [.lit (.bool true)], args := [d1, d2, d3] }
  | _ => none }
def surveyClearancesRow : OpenClaim := { program := "ytcpcedbnpieebaa", sum := "ea5aa1b3a645b6d9348d30845d8af79d170280806157eb0cb47057c7f312c45d", func := "keelblock/keelblocklaw09.SurveyClearances", spec := "surveyClearances", unfollowed := true, recurses := true, apart := false }
def SurveyClearancesSaid : Prop := surveyClearancesRow.holds Try.pinned (OpenSpec.ofChange surveyClearancesSpec)

/-- ITS FALSE NEIGHBOUR: 'it returns false'. Refute it at one input. -/
def surveyClearancesWrong : ChangeSpec := { name := "surveyClearances", fn := fun _ => fun
  | [d1, d2, d3] => { results := [.lit (.bool false)], args := [d1, d2, d3] }
  | _ => none }
def SurveyClearancesWrongFalsely : Prop := surveyClearancesRow.holds Try.pinned (OpenSpec.ofChange surveyClearancesWrong)

/-- 'keelblocklaw09.SurveyCoats': WHATEVER THE INPUT: true; the input reads as it did. -/
def surveyCoatsSpec : ChangeSpec := { name := "surveyCoats", fn := fun _ => fun
  | [d1, d2, d3] => { results := [.lit (.bool true)], args := [d1, d2, d3] }
  | _ => none }
def surveyCoatsRow : OpenClaim := { program := "ytcpcedbnpieebaa", sum := "ea5aa1b3a645b6d9348d30845d8af79d170280806157eb0cb47057c7f312c45d", func := "keelblock/keelblocklaw09.SurveyCoats", spec := "surveyCoats", unfollowed := true, recurses := true, apart := false }
def SurveyCoatsSaid : Prop := surveyCoatsRow.holds Try.pinned (OpenSpec.ofChange surveyCoatsSpec)

/-- ITS FALSE NEIGHBOUR: 'it returns false'. Refute it at one input. -/
def surveyCoatsWrong : ChangeSpec := { name := "surveyCoats", fn := fun _ => fun
  | [d1, d2, d3] => { results := [.lit (.bool false)], args := [d1, d2, d3] }
  | _ => none }
def SurveyCoatsWrongFalsely : Prop := surveyCoatsRow.holds Try.pinned (OpenSpec.ofChange surveyCoatsWrong)

/-- 'keelblocklaw09.SurveyGoes': WHATEVER THE INPUT: true; the input reads as it did. -/
def surveyGoesSpec : ChangeSpec := { name := "surveyGoes", fn := fun _ => fun
  | [d1, d2, d3] => { results := [.lit (.bool true)], args := [d1, d2, d3] }
  | _ => none }
def surveyGoesRow : OpenClaim := { program := "ytcpcedbnpieebaa", sum := "ea5aa1b3a645b6d9348d30845d8af79d170280806157eb0cb47057c7f312c45d", func := "keelblock/keelblocklaw09.SurveyGoes", spec := "surveyGoes", unfollowed := true, recurses := true, apart := false }
def SurveyGoesSaid : Prop := surveyGoesRow.holds Try.pinned (OpenSpec.ofChange surveyGoesSpec)

/-- ITS FALSE NEIGHBOUR: 'it returns false'. Refute it at one input. -/
def surveyGoesWrong : ChangeSpec := { name := "surveyGoes", fn := fun _ => fun
  | [d1, d2, d3] => { results := [.lit (.bool false)], args := [d1, d2, d3] }
  | _ => none }
def SurveyGoesWrongFalsely : Prop := surveyGoesRow.holds Try.pinned (OpenSpec.ofChange surveyGoesWrong)

/-- 'keelblocklaw09.SurveyCuts': WHATEVER THE INPUT: true; the input reads as it did. -/
def surveyCutsSpec : ChangeSpec := { name := "surveyCuts", fn := fun _ => fun
  | [d1, d2, d3] => { results := [.lit (.bool true)], args := [d1, d2, d3] }
  | _ => none }
def surveyCutsRow : OpenClaim := { program := "ytcpcedbnpieebaa", sum := "ea5aa1b3a645b6d9348d30845d8af79d170280806157eb0cb47057c7f312c45d", func := "keelblock/keelblocklaw09.SurveyCuts", spec := "surveyCuts", unfollowed := true, recurses := true, loops := true, apart := false }
def SurveyCutsSaid : Prop := surveyCutsRow.holds Try.pinned (OpenSpec.ofChange surveyCutsSpec)

/-- ITS FALSE NEIGHBOUR: 'it returns false'. Refute it at one input. -/
def surveyCutsWrong : ChangeSpec := { name := "surveyCuts", fn := fun _ => fun
  | [d1, d2, d3] => { results := [.lit (.bool false)], args := [d1, d2, d3] }
  | _ => none }
def SurveyCutsWrongFalsely : Prop := surveyCutsRow.holds Try.pinned (OpenSpec.ofChange surveyCutsWrong)

/-- 'keelblocklaw09.SurveyRenewals': WHATEVER THE INPUT: true; the input reads as it did. -/
def surveyRenewalsSpec : ChangeSpec := { name := "surveyRenewals", fn := fun _ => fun
  | [d1, d2] => { results := [.lit (.bool true)], args := [d1, d2] }
  | _ => none }
def surveyRenewalsRow : OpenClaim := { program := "ytcpcedbnpieebaa", sum := "ea5aa1b3a645b6d9348d30845d8af79d170280806157eb0cb47057c7f312c45d", func := "keelblock/keelblocklaw09.SurveyRenewals", spec := "surveyRenewals", unfollowed := true, recurses := true, apart := false }
def SurveyRenewalsSaid : Prop := surveyRenewalsRow.holds Try.pinned (OpenSpec.ofChange surveyRenewalsSpec)

/-- ITS FALSE NEIGHBOUR: 'it returns false'. Refute it at one input. -/
def surveyRenewalsWrong : ChangeSpec := { name := "surveyRenewals", fn := fun _ => fun
  | [d1, d2] => { results := [.lit (.bool false)], args := [d1, d2] }
  | _ => none }
def SurveyRenewalsWrongFalsely : Prop := surveyRenewalsRow.holds Try.pinned (OpenSpec.ofChange surveyRenewalsWrong)

/-- 'keelblocklaw09.SurveyCovers': WHATEVER THE INPUT: true; the input reads as it did. -/
def surveyCoversSpec : ChangeSpec := { name := "surveyCovers", fn := fun _ => fun
  | [d1, d2, d3] => { results := [.lit (.bool true)], args := [d1, d2, d3] }
  | _ => none }
def surveyCoversRow : OpenClaim := { program := "ytcpcedbnpieebaa", sum := "ea5aa1b3a645b6d9348d30845d8af79d170280806157eb0cb47057c7f312c45d", func := "keelblock/keelblocklaw09.SurveyCovers", spec := "surveyCovers", unfollowed := true, recurses := true, apart := false }
def SurveyCoversSaid : Prop := surveyCoversRow.holds Try.pinned (OpenSpec.ofChange surveyCoversSpec)

/-- ITS FALSE NEIGHBOUR: 'it returns false'. Refute it at one input. -/
def surveyCoversWrong : ChangeSpec := { name := "surveyCovers", fn := fun _ => fun
  | [d1, d2, d3] => { results := [.lit (.bool false)], args := [d1, d2, d3] }
  | _ => none }
def SurveyCoversWrongFalsely : Prop := surveyCoversRow.holds Try.pinned (OpenSpec.ofChange surveyCoversWrong)

/- THE SECOND FORM. 'bulk': how many values and letters a reading holds, each counted each time it is reached (what is shared counts as often as it is met; a slice's spare places count too). A statement '..UptoSaid' is the law's where the arguments, and the package variables that the reading takes, are together of bulk at most 1048576: NARROWER than '..Said'. Prove '..Said' where nothing that the law and all that it calls make is longer than what came in: it says more and counts as full. Else prove '..UptoSaid'. A law counts once. -/
mutual
def uptoBulk {H : Type} : DataW H → Nat
  | .lit (.string bytes) => bytes.length + 1
  | .lit _ => 1
  | .nil => 1
  | .ptr d => uptoBulk d + 1
  | .slice elems spare => uptoBulkAll elems + uptoBulkAll spare + 1
  | .agg parts => uptoBulkAll parts + 1
  | .iface _ d => uptoBulk d + 1
  | .map entries => uptoBulkEntries entries + 1
  | .held _ => 1
def uptoBulkAll {H : Type} : List (DataW H) → Nat
  | [] => 0
  | d :: r => uptoBulk d + uptoBulkAll r
def uptoBulkEntries {H : Type} : List (Lit × DataW H) → Nat
  | [] => 0
  | x :: r => uptoBulkEntry x + uptoBulkEntries r
def uptoBulkEntry {H : Type} : Lit × DataW H → Nat
  | (.string bytes, d) => bytes.length + uptoBulk d + 1
  | (_, d) => uptoBulk d + 1
 end
def uptoSmall : (H : Type) → List (DataW H) → Bool := fun _ ds => decide (uptoBulkAll ds ≤ 1048576)
def OpenSpec.upto (s : _root_.Go.ChangeSpec) : _root_.Go.OpenSpec := { _root_.Go.OpenSpec.ofChange s with cond := some uptoSmall }

/-- 'keelblocklaw09.SurveyPanels', WHERE WHAT IT READS IS OF BULK AT MOST 1048576: true; the input reads as it did. -/
def surveyPanelsUptoRow : OpenClaim := { program := "ytcpcedbnpieebaa", sum := "ea5aa1b3a645b6d9348d30845d8af79d170280806157eb0cb47057c7f312c45d", func := "keelblock/keelblocklaw09.SurveyPanels", spec := "surveyPanels", unfollowed := true, recurses := true, apart := false, narrowed := true }
def SurveyPanelsUptoSaid : Prop := surveyPanelsUptoRow.holds Try.pinned (OpenSpec.upto surveyPanelsSpec)

/-- 'keelblocklaw09.SurveyTrials', WHERE WHAT IT READS IS OF BULK AT MOST 1048576: true; the input reads as it did. -/
def surveyTrialsUptoRow : OpenClaim := { program := "ytcpcedbnpieebaa", sum := "ea5aa1b3a645b6d9348d30845d8af79d170280806157eb0cb47057c7f312c45d", func := "keelblock/keelblocklaw09.SurveyTrials", spec := "surveyTrials", unfollowed := true, recurses := true, apart := false, narrowed := true }
def SurveyTrialsUptoSaid : Prop := surveyTrialsUptoRow.holds Try.pinned (OpenSpec.upto surveyTrialsSpec)

/-- 'keelblocklaw09.SurveyTrends', WHERE WHAT IT READS IS OF BULK AT MOST 1048576: true; the input reads as it did. -/
def surveyTrendsUptoRow : OpenClaim := { program := "ytcpcedbnpieebaa", sum := "ea5aa1b3a645b6d9348d30845d8af79d170280806157eb0cb47057c7f312c45d", func := "keelblock/keelblocklaw09.SurveyTrends", spec := "surveyTrends", unfollowed := true, recurses := true, apart := false, narrowed := true }
def SurveyTrendsUptoSaid : Prop := surveyTrendsUptoRow.holds Try.pinned (OpenSpec.upto surveyTrendsSpec)

/-- 'keelblocklaw09.SurveyRemains', WHERE WHAT IT READS IS OF BULK AT MOST 1048576: true; the input reads as it did. -/
def surveyRemainsUptoRow : OpenClaim := { program := "ytcpcedbnpieebaa", sum := "ea5aa1b3a645b6d9348d30845d8af79d170280806157eb0cb47057c7f312c45d", func := "keelblock/keelblocklaw09.SurveyRemains", spec := "surveyRemains", unfollowed := true, recurses := true, apart := false, narrowed := true }
def SurveyRemainsUptoSaid : Prop := surveyRemainsUptoRow.holds Try.pinned (OpenSpec.upto surveyRemainsSpec)

/-- 'keelblocklaw09.SurveyTables', WHERE WHAT IT READS IS OF BULK AT MOST 1048576: true; the input reads as it did. -/
def surveyTablesUptoRow : OpenClaim := { program := "ytcpcedbnpieebaa", sum := "ea5aa1b3a645b6d9348d30845d8af79d170280806157eb0cb47057c7f312c45d", func := "keelblock/keelblocklaw09.SurveyTables", spec := "surveyTables", unfollowed := true, recurses := true, apart := false, narrowed := true }
def SurveyTablesUptoSaid : Prop := surveyTablesUptoRow.holds Try.pinned (OpenSpec.upto surveyTablesSpec)

/-- 'keelblocklaw09.SurveyClearances', WHERE WHAT IT READS IS OF BULK AT MOST 1048576: true; the input reads as it did. -/
def surveyClearancesUptoRow : OpenClaim := { program := "ytcpcedbnpieebaa", sum := "ea5aa1b3a645b6d9348d30845d8af79d170280806157eb0cb47057c7f312c45d", func := "keelblock/keelblocklaw09.SurveyClearances", spec := "surveyClearances", unfollowed := true, recurses := true, apart := false, narrowed := true }
def SurveyClearancesUptoSaid : Prop := surveyClearancesUptoRow.holds Try.pinned (OpenSpec.upto surveyClearancesSpec)

/-- 'keelblocklaw09.SurveyCoats', WHERE WHAT IT READS IS OF BULK AT MOST 1048576: true; the input reads as it did. -/
def surveyCoatsUptoRow : OpenClaim := { program := "ytcpcedbnpieebaa", sum := "ea5aa1b3a645b6d9348d30845d8af79d170280806157eb0cb47057c7f312c45d", func := "keelblock/keelblocklaw09.SurveyCoats", spec := "surveyCoats", unfollowed := true, recurses := true, apart := false, narrowed := true }
def SurveyCoatsUptoSaid : Prop := surveyCoatsUptoRow.holds Try.pinned (OpenSpec.upto surveyCoatsSpec)

/-- 'keelblocklaw09.SurveyGoes', WHERE WHAT IT READS IS OF BULK AT MOST 1048576: true; the input reads as it did. -/
def surveyGoesUptoRow : OpenClaim := { program := "ytcpcedbnpieebaa", sum := "ea5aa1b3a645b6d9348d30845d8af79d170280806157eb0cb47057c7f312c45d", func := "keelblock/keelblocklaw09.SurveyGoes", spec := "surveyGoes", unfollowed := true, recurses := true, apart := false, narrowed := true }
def SurveyGoesUptoSaid : Prop := surveyGoesUptoRow.holds Try.pinned (OpenSpec.upto surveyGoesSpec)

/-- 'keelblocklaw09.SurveyCuts', WHERE WHAT IT READS IS OF BULK AT MOST 1048576: true; the input reads as it did. -/
def surveyCutsUptoRow : OpenClaim := { program := "ytcpcedbnpieebaa", sum := "ea5aa1b3a645b6d9348d30845d8af79d170280806157eb0cb47057c7f312c45d", func := "keelblock/keelblocklaw09.SurveyCuts", spec := "surveyCuts", unfollowed := true, recurses := true, loops := true, apart := false, narrowed := true }
def SurveyCutsUptoSaid : Prop := surveyCutsUptoRow.holds Try.pinned (OpenSpec.upto surveyCutsSpec)

/-- 'keelblocklaw09.SurveyRenewals', WHERE WHAT IT READS IS OF BULK AT MOST 1048576: true; the input reads as it did. -/
def surveyRenewalsUptoRow : OpenClaim := { program := "ytcpcedbnpieebaa", sum := "ea5aa1b3a645b6d9348d30845d8af79d170280806157eb0cb47057c7f312c45d", func := "keelblock/keelblocklaw09.SurveyRenewals", spec := "surveyRenewals", unfollowed := true, recurses := true, apart := false, narrowed := true }
def SurveyRenewalsUptoSaid : Prop := surveyRenewalsUptoRow.holds Try.pinned (OpenSpec.upto surveyRenewalsSpec)

/-- 'keelblocklaw09.SurveyCovers', WHERE WHAT IT READS IS OF BULK AT MOST 1048576: true; the input reads as it did. -/
def surveyCoversUptoRow : OpenClaim := { program := "ytcpcedbnpieebaa", sum := "ea5aa1b3a645b6d9348d30845d8af79d170280806157eb0cb47057c7f312c45d", func := "keelblock/keelblocklaw09.SurveyCovers", spec := "surveyCovers", unfollowed := true, recurses := true, apart := false, narrowed := true }
def SurveyCoversUptoSaid : Prop := surveyCoversUptoRow.holds Try.pinned (OpenSpec.upto surveyCoversSpec)

end Rows
end Go.Proofs.Ytcpcedbnpieebaa
