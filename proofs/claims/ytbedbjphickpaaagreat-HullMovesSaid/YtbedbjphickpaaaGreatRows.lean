/-
  No cell of these rows narrows 'for every input' (looked for: loops, veiled, ifaces, maps, wideKeys, modest, calm, conditions, laid).
  DERIVED. THE GIVEN ROWS OF THIS SEAT. 12 by the template 'for every input the law returns true; each argument reads behind the call as it read before'; 0 by the template 'total and deterministic' (their statements: YtbedbjphickpaaaGreatTotals.lean).
  GIVEN WITH THE SEED: the statements are not yours to turn. If you find one false, say at which input.
  Laid BY PROGRAM, IN A SANDBOX (cutbox-rows.mjs): the forced cells as the released guide's own fill.sh prints them over the translation e77c4964dc61536a… (all of the seat's roots in one cut). By AI agents, Wed Nov 11 2026. No macro, syntax, notation, axiom, sorry.
-/
import Derived.Test.YtbedbjphickpaaaGreatChecked
import GoSem.Claim
import GoSem.ClaimJoined
import GoSem.ClaimMapViews
import Derived.JoinedTies
import Derived.KernelRfl
namespace Go.Proofs.YtbedbjphickpaaaGreat
/- THE CELL 'sum', in the pinned program and in every row, IS THE sha256 OF THE DUMP (.gsa) THAT YtbedbjphickpaaaGreatProg.lean LOADS. Nothing in Lean hashes anything: it is a label: what it is worth is what the hold of that sum in a sandbox is worth. -/
noncomputable def Tryz.pinned : Pinned := { name := "ytbedbjphickpaaagreat", sum := "e77c4964dc61536aad668cdc2fc306434271f62f941c121c8dc354b9fa2a7705", checked := Tryz.checked }
namespace Rows
def none {H : Type} : Left H := { results := [], args := [] }

/-- 'keelblocklaw02.HullHydrostatics': WHATEVER THE INPUT: true; the input reads as it did. -/
def hullHydrostaticsSpec : ChangeSpec := { name := "hullHydrostatics", fn := fun _ => fun
  | [d1, d2, d3] => { results := [.lit (.bool true)], args := [d1, d2, d3] }
  | _ => none }
def hullHydrostaticsRow : OpenClaim := { program := "ytbedbjphickpaaagreat", sum := "e77c4964dc61536aad668cdc2fc306434271f62f941c121c8dc354b9fa2a7705", func := "keelblock/keelblocklaw02.HullHydrostatics", spec := "hullHydrostatics", unfollowed := true, recurses := true, apart := false }
def HullHydrostaticsSaid : Prop := hullHydrostaticsRow.holds Tryz.pinned (OpenSpec.ofChange hullHydrostaticsSpec)

/-- ITS FALSE NEIGHBOUR: 'it returns false'. Refute it at one input. -/
def hullHydrostaticsWrong : ChangeSpec := { name := "hullHydrostatics", fn := fun _ => fun
  | [d1, d2, d3] => { results := [.lit (.bool false)], args := [d1, d2, d3] }
  | _ => none }
def HullHydrostaticsWrongFalsely : Prop := hullHydrostaticsRow.holds Tryz.pinned (OpenSpec.ofChange hullHydrostaticsWrong)

/-- 'keelblocklaw02.HullDraughts': WHATEVER THE INPUT: true; the input reads as it did. -/
def hullDraughtsSpec : ChangeSpec := { name := "hullDraughts", fn := fun _ => fun
  | [d1, d2, d3] => { results := [.lit (.bool true)], args := [d1, d2, d3] }
  | _ => none }
def hullDraughtsRow : OpenClaim := { program := "ytbedbjphickpaaagreat", sum := "e77c4964dc61536aad668cdc2fc306434271f62f941c121c8dc354b9fa2a7705", func := "keelblock/keelblocklaw02.HullDraughts", spec := "hullDraughts", unfollowed := true, recurses := true, apart := false }
def HullDraughtsSaid : Prop := hullDraughtsRow.holds Tryz.pinned (OpenSpec.ofChange hullDraughtsSpec)

/-- ITS FALSE NEIGHBOUR: 'it returns false'. Refute it at one input. -/
def hullDraughtsWrong : ChangeSpec := { name := "hullDraughts", fn := fun _ => fun
  | [d1, d2, d3] => { results := [.lit (.bool false)], args := [d1, d2, d3] }
  | _ => none }
def HullDraughtsWrongFalsely : Prop := hullDraughtsRow.holds Tryz.pinned (OpenSpec.ofChange hullDraughtsWrong)

/-- 'keelblocklaw02.HullStability': WHATEVER THE INPUT: true; the input reads as it did. -/
def hullStabilitySpec : ChangeSpec := { name := "hullStability", fn := fun _ => fun
  | [d1, d2, d3] => { results := [.lit (.bool true)], args := [d1, d2, d3] }
  | _ => none }
def hullStabilityRow : OpenClaim := { program := "ytbedbjphickpaaagreat", sum := "e77c4964dc61536aad668cdc2fc306434271f62f941c121c8dc354b9fa2a7705", func := "keelblock/keelblocklaw02.HullStability", spec := "hullStability", unfollowed := true, recurses := true, apart := false }
def HullStabilitySaid : Prop := hullStabilityRow.holds Tryz.pinned (OpenSpec.ofChange hullStabilitySpec)

/-- ITS FALSE NEIGHBOUR: 'it returns false'. Refute it at one input. -/
def hullStabilityWrong : ChangeSpec := { name := "hullStability", fn := fun _ => fun
  | [d1, d2, d3] => { results := [.lit (.bool false)], args := [d1, d2, d3] }
  | _ => none }
def HullStabilityWrongFalsely : Prop := hullStabilityRow.holds Tryz.pinned (OpenSpec.ofChange hullStabilityWrong)

/-- 'keelblocklaw02.HullSections': WHATEVER THE INPUT: true; the input reads as it did. -/
def hullSectionsSpec : ChangeSpec := { name := "hullSections", fn := fun _ => fun
  | [d1, d2] => { results := [.lit (.bool true)], args := [d1, d2] }
  | _ => none }
def hullSectionsRow : OpenClaim := { program := "ytbedbjphickpaaagreat", sum := "e77c4964dc61536aad668cdc2fc306434271f62f941c121c8dc354b9fa2a7705", func := "keelblock/keelblocklaw02.HullSections", spec := "hullSections", unfollowed := true, recurses := true, apart := false }
def HullSectionsSaid : Prop := hullSectionsRow.holds Tryz.pinned (OpenSpec.ofChange hullSectionsSpec)

/-- ITS FALSE NEIGHBOUR: 'it returns false'. Refute it at one input. -/
def hullSectionsWrong : ChangeSpec := { name := "hullSections", fn := fun _ => fun
  | [d1, d2] => { results := [.lit (.bool false)], args := [d1, d2] }
  | _ => none }
def HullSectionsWrongFalsely : Prop := hullSectionsRow.holds Tryz.pinned (OpenSpec.ofChange hullSectionsWrong)

/-- 'keelblocklaw02.HullTables': WHATEVER THE INPUT: true; the input reads as it did. -/
def hullTablesSpec : ChangeSpec := { name := "hullTables", fn := fun _ => fun
  | [d1, d2, d3] => { results := [.lit (.bool true)], args := [d1, d2, d3] }
  | _ => none }
def hullTablesRow : OpenClaim := { program := "ytbedbjphickpaaagreat", sum := "e77c4964dc61536aad668cdc2fc306434271f62f941c121c8dc354b9fa2a7705", func := "keelblock/keelblocklaw02.HullTables", spec := "hullTables", unfollowed := true, recurses := true, apart := false }
def HullTablesSaid : Prop := hullTablesRow.holds Tryz.pinned (OpenSpec.ofChange hullTablesSpec)

/-- ITS FALSE NEIGHBOUR: 'it returns false'. Refute it at one input. -/
def hullTablesWrong : ChangeSpec := { name := "hullTables", fn := fun _ => fun
  | [d1, d2, d3] => { results := [.lit (.bool false)], args := [d1, d2, d3] }
  | _ => none }
def HullTablesWrongFalsely : Prop := hullTablesRow.holds Tryz.pinned (OpenSpec.ofChange hullTablesWrong)

/-- 'keelblocklaw02.HullSurveys': WHATEVER THE INPUT: true; the input reads as it did. -/
def hullSurveysSpec : ChangeSpec := { name := "hullSurveys", fn := fun _ => fun
  | [d] => { results := [.lit (.bool true)], args := [d] }
  | _ => none }
def hullSurveysRow : OpenClaim := { program := "ytbedbjphickpaaagreat", sum := "e77c4964dc61536aad668cdc2fc306434271f62f941c121c8dc354b9fa2a7705", func := "keelblock/keelblocklaw02.HullSurveys", spec := "hullSurveys", unfollowed := true, recurses := true, apart := false }
def HullSurveysSaid : Prop := hullSurveysRow.holds Tryz.pinned (OpenSpec.ofChange hullSurveysSpec)

/-- ITS FALSE NEIGHBOUR: 'it returns false'. Refute it at one input. -/
def hullSurveysWrong : ChangeSpec := { name := "hullSurveys", fn := fun _ => fun
  | [d] => { results := [.lit (.bool false)], args := [d] }
  | _ => none }
def HullSurveysWrongFalsely : Prop := hullSurveysRow.holds Tryz.pinned (OpenSpec.ofChange hullSurveysWrong)

/-- 'keelblocklaw02.HullExperiments': WHATEVER THE INPUT: true; the input reads as it did. -/
def hullExperimentsSpec : ChangeSpec := { name := "hullExperiments", fn := fun _ => fun
  | [d] => { results := [.lit (.bool true)], args := [d] }
  | _ => none }
def hullExperimentsRow : OpenClaim := { program := "ytbedbjphickpaaagreat", sum := "e77c4964dc61536aad668cdc2fc306434271f62f941c121c8dc354b9fa2a7705", func := "keelblock/keelblocklaw02.HullExperiments", spec := "hullExperiments", unfollowed := true, recurses := true, apart := false }
def HullExperimentsSaid : Prop := hullExperimentsRow.holds Tryz.pinned (OpenSpec.ofChange hullExperimentsSpec)

/-- ITS FALSE NEIGHBOUR: 'it returns false'. Refute it at one input. -/
def hullExperimentsWrong : ChangeSpec := { name := "hullExperiments", fn := fun _ => fun
  | [d] => { results := [.lit (.bool false)], args := [d] }
  | _ => none }
def HullExperimentsWrongFalsely : Prop := hullExperimentsRow.holds Tryz.pinned (OpenSpec.ofChange hullExperimentsWrong)

/-- 'keelblocklaw02.HullStrength': WHATEVER THE INPUT: true; the input reads as it did. -/
def hullStrengthSpec : ChangeSpec := { name := "hullStrength", fn := fun _ => fun
  | [d1, d2, d3] => { results := [.lit (.bool true)], args := [d1, d2, d3] }
  | _ => none }
def hullStrengthRow : OpenClaim := { program := "ytbedbjphickpaaagreat", sum := "e77c4964dc61536aad668cdc2fc306434271f62f941c121c8dc354b9fa2a7705", func := "keelblock/keelblocklaw02.HullStrength", spec := "hullStrength", unfollowed := true, recurses := true, apart := false }
def HullStrengthSaid : Prop := hullStrengthRow.holds Tryz.pinned (OpenSpec.ofChange hullStrengthSpec)

/-- ITS FALSE NEIGHBOUR: 'it returns false'. Refute it at one input. -/
def hullStrengthWrong : ChangeSpec := { name := "hullStrength", fn := fun _ => fun
  | [d1, d2, d3] => { results := [.lit (.bool false)], args := [d1, d2, d3] }
  | _ => none }
def HullStrengthWrongFalsely : Prop := hullStrengthRow.holds Tryz.pinned (OpenSpec.ofChange hullStrengthWrong)

/-- 'keelblocklaw02.HullSupports': WHATEVER THE INPUT: true; the input reads as it did. -/
def hullSupportsSpec : ChangeSpec := { name := "hullSupports", fn := fun _ => fun
  | [d1, d2, d3] => { results := [.lit (.bool true)], args := [d1, d2, d3] }
  | _ => none }
def hullSupportsRow : OpenClaim := { program := "ytbedbjphickpaaagreat", sum := "e77c4964dc61536aad668cdc2fc306434271f62f941c121c8dc354b9fa2a7705", func := "keelblock/keelblocklaw02.HullSupports", spec := "hullSupports", unfollowed := true, recurses := true, apart := false }
def HullSupportsSaid : Prop := hullSupportsRow.holds Tryz.pinned (OpenSpec.ofChange hullSupportsSpec)

/-- ITS FALSE NEIGHBOUR: 'it returns false'. Refute it at one input. -/
def hullSupportsWrong : ChangeSpec := { name := "hullSupports", fn := fun _ => fun
  | [d1, d2, d3] => { results := [.lit (.bool false)], args := [d1, d2, d3] }
  | _ => none }
def HullSupportsWrongFalsely : Prop := hullSupportsRow.holds Tryz.pinned (OpenSpec.ofChange hullSupportsWrong)

/-- 'keelblocklaw02.HullLoads': WHATEVER THE INPUT: true; the input reads as it did. -/
def hullLoadsSpec : ChangeSpec := { name := "hullLoads", fn := fun _ => fun
  | [d1, d2, d3] => { results := [.lit (.bool true)], args := [d1, d2, d3] }
  | _ => none }
def hullLoadsRow : OpenClaim := { program := "ytbedbjphickpaaagreat", sum := "e77c4964dc61536aad668cdc2fc306434271f62f941c121c8dc354b9fa2a7705", func := "keelblock/keelblocklaw02.HullLoads", spec := "hullLoads", unfollowed := true, recurses := true, apart := false }
def HullLoadsSaid : Prop := hullLoadsRow.holds Tryz.pinned (OpenSpec.ofChange hullLoadsSpec)

/-- ITS FALSE NEIGHBOUR: 'it returns false'. Refute it at one input. -/
def hullLoadsWrong : ChangeSpec := { name := "hullLoads", fn := fun _ => fun
  | [d1, d2, d3] => { results := [.lit (.bool false)], args := [d1, d2, d3] }
  | _ => none }
def HullLoadsWrongFalsely : Prop := hullLoadsRow.holds Tryz.pinned (OpenSpec.ofChange hullLoadsWrong)

/-- 'keelblocklaw02.HullMoves': WHATEVER THE INPUT: true; the input reads as it did. -/
def hullMovesSpec : ChangeSpec := { name := "hullMoves", fn := fun _ => fun
  | [d] => { results := [.lit (.bool true)], args := [d] }
  | _ => none }
def hullMovesRow : OpenClaim := { program := "ytbedbjphickpaaagreat", sum := "e77c4964dc61536aad668cdc2fc306434271f62f941c121c8dc354b9fa2a7705", func := "keelblock/keelblocklaw02.HullMoves", spec := "hullMoves", unfollowed := true, recurses := true, apart := false }
def HullMovesSaid : Prop := hullMovesRow.holds Tryz.pinned (OpenSpec.ofChange hullMovesSpec)

/-- ITS FALSE NEIGHBOUR: 'it returns false'. Refute it at one input. -/
def hullMovesWrong : ChangeSpec := { name := "hullMoves", fn := fun _ => fun
  | [d] => { results := [.lit (.bool false)], args := [d] }
  | _ => none }
def HullMovesWrongFalsely : Prop := hullMovesRow.holds Tryz.pinned (OpenSpec.ofChange hullMovesWrong)

/-- 'keelblocklaw02.HullMemory': WHATEVER THE INPUT: true; the input reads as it did. -/
def hullMemorySpec : ChangeSpec := { name := "hullMemory", fn := fun _ => fun
  | [d1, d2] => { results := [.lit (.bool true)], args := [d1, d2] }
  | _ => none }
def hullMemoryRow : OpenClaim := { program := "ytbedbjphickpaaagreat", sum := "e77c4964dc61536aad668cdc2fc306434271f62f941c121c8dc354b9fa2a7705", func := "keelblock/keelblocklaw02.HullMemory", spec := "hullMemory", unfollowed := true, recurses := true, apart := false }
def HullMemorySaid : Prop := hullMemoryRow.holds Tryz.pinned (OpenSpec.ofChange hullMemorySpec)

/-- ITS FALSE NEIGHBOUR: 'it returns false'. Refute it at one input. -/
def hullMemoryWrong : ChangeSpec := { name := "hullMemory", fn := fun _ => fun
  | [d1, d2] => { results := [.lit (.bool false)], args := [d1, d2] }
  | _ => none }
def HullMemoryWrongFalsely : Prop := hullMemoryRow.holds Tryz.pinned (OpenSpec.ofChange hullMemoryWrong)

/- THE SECOND FORM. 'bulk': how many values and letters a reading holds, each counted each time it is reached (what is shared counts as often as it is met; a slice's spare places count too). A statement '..UptoSaid' is the law's where the arguments, and the package variables that the reading takes, are together of bulk at most 1048576: NARROWER than '..Said'. Prove '..Said' where nothing that the law and all that it calls make is longer than what came in: it says more and counts as full. Else prove '..UptoSaid'. A law counts once. -/
mutual
def uptoBulk {H : Type} : DataW H → Nat
  | .lit (.string bytes) => bytes.length + 1
  | .lit _ => 1
  | .nil => 1
  | .ptr d => uptoBulk d + 1
  | .slice elems spare => uptoBulkAll elems + uptoBulkAll spare + 1
  | .agg parts => uptoBulkAll parts + 1
  | .iface _ d => uptoBulk d + 1
  | .map entries => uptoBulkEntries entries + 1
  | .held _ => 1
def uptoBulkAll {H : Type} : List (DataW H) → Nat
  | [] => 0
  | d :: r => uptoBulk d + uptoBulkAll r
def uptoBulkEntries {H : Type} : List (Lit × DataW H) → Nat
  | [] => 0
  | x :: r => uptoBulkEntry x + uptoBulkEntries r
def uptoBulkEntry {H : Type} : Lit × DataW H → Nat
  | (.string bytes, d) => bytes.length + uptoBulk d + 1
  | (_, d) => uptoBulk d + 1
 end
def uptoSmall : (H : Type) → List (DataW H) → Bool := fun _ ds => decide (uptoBulkAll ds ≤ 1048576)
def OpenSpec.upto (s : _root_.Go.ChangeSpec) : _root_.Go.OpenSpec := { _root_.Go.OpenSpec.ofChange s with cond := some uptoSmall }

/-- 'keelblocklaw02.HullHydrostatics', WHERE WHAT IT READS IS OF BULK AT MOST 1048576: true; the input reads as it did. -/
def hullHydrostaticsUptoRow : OpenClaim := { program := "ytbedbjphickpaaagreat", sum := "e77c4964dc61536aad668cdc2fc306434271f62f941c121c8dc354b9fa2a7705", func := "keelblock/keelblocklaw02.HullHydrostatics", spec := "hullHydrostatics", unfollowed := true, recurses := true, apart := false, narrowed := true }
def HullHydrostaticsUptoSaid : Prop := hullHydrostaticsUptoRow.holds Tryz.pinned (OpenSpec.upto hullHydrostaticsSpec)

/-- 'keelblocklaw02.HullDraughts', WHERE WHAT IT READS IS OF BULK AT MOST 1048576: true; the input reads as it did. -/
def hullDraughtsUptoRow : OpenClaim := { program := "ytbedbjphickpaaagreat", sum := "e77c4964dc61536aad668cdc2fc306434271f62f941c121c8dc354b9fa2a7705", func := "keelblock/keelblocklaw02.HullDraughts", spec := "hullDraughts", unfollowed := true, recurses := true, apart := false, narrowed := true }
def HullDraughtsUptoSaid : Prop := hullDraughtsUptoRow.holds Tryz.pinned (OpenSpec.upto hullDraughtsSpec)

/-- 'keelblocklaw02.HullStability', WHERE WHAT IT READS IS OF BULK AT MOST 1048576: true; the input reads as it did. -/
def hullStabilityUptoRow : OpenClaim := { program := "ytbedbjphickpaaagreat", sum := "e77c4964dc61536aad668cdc2fc306434271f62f941c121c8dc354b9fa2a7705", func := "keelblock/keelblocklaw02.HullStability", spec := "hullStability", unfollowed := true, recurses := true, apart := false, narrowed := true }
def HullStabilityUptoSaid : Prop := hullStabilityUptoRow.holds Tryz.pinned (OpenSpec.upto hullStabilitySpec)

/-- 'keelblocklaw02.HullSections', WHERE WHAT IT READS IS OF BULK AT MOST 1048576: true; the input reads as it did. -/
def hullSectionsUptoRow : OpenClaim := { program := "ytbedbjphickpaaagreat", sum := "e77c4964dc61536aad668cdc2fc306434271f62f941c121c8dc354b9fa2a7705", func := "keelblock/keelblocklaw02.HullSections", spec := "hullSections", unfollowed := true, recurses := true, apart := false, narrowed := true }
def HullSectionsUptoSaid : Prop := hullSectionsUptoRow.holds Tryz.pinned (OpenSpec.upto hullSectionsSpec)

/-- 'keelblocklaw02.HullTables', WHERE WHAT IT READS IS OF BULK AT MOST 1048576: true; the input reads as it did. -/
def hullTablesUptoRow : OpenClaim := { program := "ytbedbjphickpaaagreat", sum := "e77c4964dc61536aad668cdc2fc306434271f62f941c121c8dc354b9fa2a7705", func := "keelblock/keelblocklaw02.HullTables", spec := "hullTables", unfollowed := true, recurses := true, apart := false, narrowed := true }
def HullTablesUptoSaid : Prop := hullTablesUptoRow.holds Tryz.pinned (OpenSpec.upto hullTablesSpec)

/-- 'keelblocklaw02.HullSurveys', WHERE WHAT IT READS IS OF BULK AT MOST 1048576: true; the input reads as it did. -/
def hullSurveysUptoRow : OpenClaim := { program := "ytbedbjphickpaaagreat", sum := "e77c4964dc61536aad668cdc2fc306434271f62f941c121c8dc354b9fa2a7705", func := "keelblock/keelblocklaw02.HullSurveys", spec := "hullSurveys", unfollowed := true, recurses := true, apart := false, narrowed := true }
def HullSurveysUptoSaid : Prop := hullSurveysUptoRow.holds Tryz.pinned (OpenSpec.upto hullSurveysSpec)

/-- 'keelblocklaw02.HullExperiments', WHERE WHAT IT READS IS OF BULK AT MOST 1048576: true; the input reads as it did. -/
def hullExperimentsUptoRow : OpenClaim := { program := "ytbedbjphickpaaagreat", sum := "e77c4964dc61536aad668cdc2fc306434271f62f941c121c8dc354b9fa2a7705", func := "keelblock/keelblocklaw02.HullExperiments", spec := "hullExperiments", unfollowed := true, recurses := true, apart := false, narrowed := true }
def HullExperimentsUptoSaid : Prop := hullExperimentsUptoRow.holds Tryz.pinned (OpenSpec.upto hullExperimentsSpec)

/-- 'keelblocklaw02.HullStrength', WHERE WHAT IT READS IS OF BULK AT MOST 1048576: true; the input reads as it did. -/
def hullStrengthUptoRow : OpenClaim := { program := "ytbedbjphickpaaagreat", sum := "e77c4964dc61536aad668cdc2fc306434271f62f941c121c8dc354b9fa2a7705", func := "keelblock/keelblocklaw02.HullStrength", spec := "hullStrength", unfollowed := true, recurses := true, apart := false, narrowed := true }
def HullStrengthUptoSaid : Prop := hullStrengthUptoRow.holds Tryz.pinned (OpenSpec.upto hullStrengthSpec)

/-- 'keelblocklaw02.HullSupports', WHERE WHAT IT READS IS OF BULK AT MOST 1048576: true; the input reads as it did. -/
def hullSupportsUptoRow : OpenClaim := { program := "ytbedbjphickpaaagreat", sum := "e77c4964dc61536aad668cdc2fc306434271f62f941c121c8dc354b9fa2a7705", func := "keelblock/keelblocklaw02.HullSupports", spec := "hullSupports", unfollowed := true, recurses := true, apart := false, narrowed := true }
def HullSupportsUptoSaid : Prop := hullSupportsUptoRow.holds Tryz.pinned (OpenSpec.upto hullSupportsSpec)

/-- 'keelblocklaw02.HullLoads', WHERE WHAT IT READS IS OF BULK AT MOST 1048576: true; the input reads as it did. -/
def hullLoadsUptoRow : OpenClaim := { program := "ytbedbjphickpaaagreat", sum := "e77c4964dc61536aad668cdc2fc306434271f62f941c121c8dc354b9fa2a7705", func := "keelblock/keelblocklaw02.HullLoads", spec := "hullLoads", unfollowed := true, recurses := true, apart := false, narrowed := true }
def HullLoadsUptoSaid : Prop := hullLoadsUptoRow.holds Tryz.pinned (OpenSpec.upto hullLoadsSpec)

/-- 'keelblocklaw02.HullMoves', WHERE WHAT IT READS IS OF BULK AT MOST 1048576: true; the input reads as it did. -/
def hullMovesUptoRow : OpenClaim := { program := "ytbedbjphickpaaagreat", sum := "e77c4964dc61536aad668cdc2fc306434271f62f941c121c8dc354b9fa2a7705", func := "keelblock/keelblocklaw02.HullMoves", spec := "hullMoves", unfollowed := true, recurses := true, apart := false, narrowed := true }
def HullMovesUptoSaid : Prop := hullMovesUptoRow.holds Tryz.pinned (OpenSpec.upto hullMovesSpec)

/-- 'keelblocklaw02.HullMemory', WHERE WHAT IT READS IS OF BULK AT MOST 1048576: true; the input reads as it did. -/
def hullMemoryUptoRow : OpenClaim := { program := "ytbedbjphickpaaagreat", sum := "e77c4964dc61536aad668cdc2fc306434271f62f941c121c8dc354b9fa2a7705", func := "keelblock/keelblocklaw02.HullMemory", spec := "hullMemory", unfollowed := true, recurses := true, apart := false, narrowed := true }
def HullMemoryUptoSaid : Prop := hullMemoryUptoRow.holds Tryz.pinned (OpenSpec.upto hullMemorySpec)

end Rows
end Go.Proofs.YtbedbjphickpaaaGreat
