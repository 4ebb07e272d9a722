/-
  No cell of these rows narrows 'for every input' (looked for: loops, veiled, ifaces, maps, wideKeys, modest, calm, conditions, laid).
  DERIVED. THE GIVEN ROWS OF THIS SEAT. 16 by the template 'for every input the law returns true; each argument reads behind the call as it read before'; 0 by the template 'total and deterministic' (their statements: YtekbfkfjhgfieaaGreatTotals.lean).
  GIVEN WITH THE SEED: the statements are not yours to turn. If you find one false, say at which input.
  Laid BY PROGRAM, IN A SANDBOX (cutbox-rows.mjs): the forced cells as the released guide's own fill.sh prints them over the translation fb39dcf333d2944a… (all of the seat's roots in one cut). By AI agents, Wed Nov 11 2026. No macro, syntax, notation, axiom, sorry.
-/
import Derived.Test.YtekbfkfjhgfieaaGreatChecked
import GoSem.Claim
import GoSem.ClaimJoined
import GoSem.ClaimMapViews
import Derived.JoinedTies
import Derived.KernelRfl
namespace Go.Proofs.YtekbfkfjhgfieaaGreat
/- THE CELL 'sum', in the pinned program and in every row, IS THE sha256 OF THE DUMP (.gsa) THAT YtekbfkfjhgfieaaGreatProg.lean LOADS. Nothing in Lean hashes anything: it is a label: what it is worth is what the hold of that sum in a sandbox is worth. -/
noncomputable def Tryz.pinned : Pinned := { name := "ytekbfkfjhgfieaagreat", sum := "fb39dcf333d2944a5e587bc300b731774785abd2983bb9c796c2225b327cebae", checked := Tryz.checked }
namespace Rows
def none {H : Type} : Left H := { results := [], args := [] }

/-- 'keelblocklaw07.PermitEvents': WHATEVER THE INPUT: true; the input reads as it did. -/
def permitEventsSpec : ChangeSpec := { name := "permitEvents", fn := fun _ => fun
  | [d1, d2] => { results := [.lit (.bool true)], args := [d1, d2] }
  | _ => none }
def permitEventsRow : OpenClaim := { program := "ytekbfkfjhgfieaagreat", sum := "fb39dcf333d2944a5e587bc300b731774785abd2983bb9c796c2225b327cebae", func := "keelblock/keelblocklaw07.PermitEvents", spec := "permitEvents", unfollowed := true, recurses := true, apart := false }
def PermitEventsSaid : Prop := permitEventsRow.holds Tryz.pinned (OpenSpec.ofChange permitEventsSpec)

/-- ITS FALSE NEIGHBOUR: 'it returns false'. Refute it at one input. -/
def permitEventsWrong : ChangeSpec := { name := "permitEvents", fn := fun _ => fun
  | [d1, d2] => { results := [.lit (.bool false)], args := [d1, d2] }
  | _ => none }
def PermitEventsWrongFalsely : Prop := permitEventsRow.holds Tryz.pinned (OpenSpec.ofChange permitEventsWrong)

/-- 'keelblocklaw07.PermitPlans': WHATEVER THE INPUT: true; the input reads as it did. -/
def permitPlansSpec : ChangeSpec := { name := "permitPlans", fn := fun _ => fun
  | [d] => { results := [.lit (.bool true)], args := [d] }
  | _ => none }
def permitPlansRow : OpenClaim := { program := "ytekbfkfjhgfieaagreat", sum := "fb39dcf333d2944a5e587bc300b731774785abd2983bb9c796c2225b327cebae", func := "keelblock/keelblocklaw07.PermitPlans", spec := "permitPlans", unfollowed := true, recurses := true, apart := false }
def PermitPlansSaid : Prop := permitPlansRow.holds Tryz.pinned (OpenSpec.ofChange permitPlansSpec)

/-- ITS FALSE NEIGHBOUR: 'it returns false'. Refute it at one input. -/
def permitPlansWrong : ChangeSpec := { name := "permitPlans", fn := fun _ => fun
  | [d] => { results := [.lit (.bool false)], args := [d] }
  | _ => none }
def PermitPlansWrongFalsely : Prop := permitPlansRow.holds Tryz.pinned (OpenSpec.ofChange permitPlansWrong)

/-- 'keelblocklaw07.PermitSymmetric': WHATEVER THE INPUT: true; the input reads as it did. -/
def permitSymmetricSpec : ChangeSpec := { name := "permitSymmetric", fn := fun _ => fun
  | [d1, d2] => { results := [.lit (.bool true)], args := [d1, d2] }
  | _ => none }
def permitSymmetricRow : OpenClaim := { program := "ytekbfkfjhgfieaagreat", sum := "fb39dcf333d2944a5e587bc300b731774785abd2983bb9c796c2225b327cebae", func := "keelblock/keelblocklaw07.PermitSymmetric", spec := "permitSymmetric", unfollowed := true, recurses := true, apart := false }
def PermitSymmetricSaid : Prop := permitSymmetricRow.holds Tryz.pinned (OpenSpec.ofChange permitSymmetricSpec)

/-- ITS FALSE NEIGHBOUR: 'it returns false'. Refute it at one input. -/
def permitSymmetricWrong : ChangeSpec := { name := "permitSymmetric", fn := fun _ => fun
  | [d1, d2] => { results := [.lit (.bool false)], args := [d1, d2] }
  | _ => none }
def PermitSymmetricWrongFalsely : Prop := permitSymmetricRow.holds Tryz.pinned (OpenSpec.ofChange permitSymmetricWrong)

/-- 'keelblocklaw07.PermitEnds': WHATEVER THE INPUT: true; the input reads as it did. -/
def permitEndsSpec : ChangeSpec := { name := "permitEnds", fn := fun _ => fun
  | [d1, d2] => { results := [.lit (.bool true)], args := [d1, d2] }
  | _ => none }
def permitEndsRow : OpenClaim := { program := "ytekbfkfjhgfieaagreat", sum := "fb39dcf333d2944a5e587bc300b731774785abd2983bb9c796c2225b327cebae", func := "keelblock/keelblocklaw07.PermitEnds", spec := "permitEnds", unfollowed := true, recurses := true, apart := false }
def PermitEndsSaid : Prop := permitEndsRow.holds Tryz.pinned (OpenSpec.ofChange permitEndsSpec)

/-- ITS FALSE NEIGHBOUR: 'it returns false'. Refute it at one input. -/
def permitEndsWrong : ChangeSpec := { name := "permitEnds", fn := fun _ => fun
  | [d1, d2] => { results := [.lit (.bool false)], args := [d1, d2] }
  | _ => none }
def PermitEndsWrongFalsely : Prop := permitEndsRow.holds Tryz.pinned (OpenSpec.ofChange permitEndsWrong)

/-- 'keelblocklaw07.PermitRelations': WHATEVER THE INPUT: true; the input reads as it did. -/
def permitRelationsSpec : ChangeSpec := { name := "permitRelations", fn := fun _ => fun
  | [d1, d2, d3] => { results := [.lit (.bool true)], args := [d1, d2, d3] }
  | _ => none }
def permitRelationsRow : OpenClaim := { program := "ytekbfkfjhgfieaagreat", sum := "fb39dcf333d2944a5e587bc300b731774785abd2983bb9c796c2225b327cebae", func := "keelblock/keelblocklaw07.PermitRelations", spec := "permitRelations", unfollowed := true, recurses := true, apart := false }
def PermitRelationsSaid : Prop := permitRelationsRow.holds Tryz.pinned (OpenSpec.ofChange permitRelationsSpec)

/-- ITS FALSE NEIGHBOUR: 'it returns false'. Refute it at one input. -/
def permitRelationsWrong : ChangeSpec := { name := "permitRelations", fn := fun _ => fun
  | [d1, d2, d3] => { results := [.lit (.bool false)], args := [d1, d2, d3] }
  | _ => none }
def PermitRelationsWrongFalsely : Prop := permitRelationsRow.holds Tryz.pinned (OpenSpec.ofChange permitRelationsWrong)

/-- 'keelblocklaw07.PermitCompatible': WHATEVER THE INPUT: true; the input reads as it did. -/
def permitCompatibleSpec : ChangeSpec := { name := "permitCompatible", fn := fun _ => fun
  | [d1, d2] => { results := [.lit (.bool true)], args := [d1, d2] }
  | _ => none }
def permitCompatibleRow : OpenClaim := { program := "ytekbfkfjhgfieaagreat", sum := "fb39dcf333d2944a5e587bc300b731774785abd2983bb9c796c2225b327cebae", func := "keelblock/keelblocklaw07.PermitCompatible", spec := "permitCompatible", unfollowed := true, recurses := true, apart := false }
def PermitCompatibleSaid : Prop := permitCompatibleRow.holds Tryz.pinned (OpenSpec.ofChange permitCompatibleSpec)

/-- ITS FALSE NEIGHBOUR: 'it returns false'. Refute it at one input. -/
def permitCompatibleWrong : ChangeSpec := { name := "permitCompatible", fn := fun _ => fun
  | [d1, d2] => { results := [.lit (.bool false)], args := [d1, d2] }
  | _ => none }
def PermitCompatibleWrongFalsely : Prop := permitCompatibleRow.holds Tryz.pinned (OpenSpec.ofChange permitCompatibleWrong)

/-- 'keelblocklaw07.PermitAir': WHATEVER THE INPUT: true; the input reads as it did. -/
def permitAirSpec : ChangeSpec := { name := "permitAir", fn := fun _ => fun
  | [d1, d2] => { results := [.lit (.bool true)], args := [d1, d2] }
  | _ => none }
def permitAirRow : OpenClaim := { program := "ytekbfkfjhgfieaagreat", sum := "fb39dcf333d2944a5e587bc300b731774785abd2983bb9c796c2225b327cebae", func := "keelblock/keelblocklaw07.PermitAir", spec := "permitAir", unfollowed := true, recurses := true, apart := false }
def PermitAirSaid : Prop := permitAirRow.holds Tryz.pinned (OpenSpec.ofChange permitAirSpec)

/-- ITS FALSE NEIGHBOUR: 'it returns false'. Refute it at one input. -/
def permitAirWrong : ChangeSpec := { name := "permitAir", fn := fun _ => fun
  | [d1, d2] => { results := [.lit (.bool false)], args := [d1, d2] }
  | _ => none }
def PermitAirWrongFalsely : Prop := permitAirRow.holds Tryz.pinned (OpenSpec.ofChange permitAirWrong)

/-- 'keelblocklaw07.PermitReplays': WHATEVER THE INPUT: true; the input reads as it did. -/
def permitReplaysSpec : ChangeSpec := { name := "permitReplays", fn := fun _ => fun
  | [d1, d2] => { results := [.lit (.bool true)], args := [d1, d2] }
  | _ => none }
def permitReplaysRow : OpenClaim := { program := "ytekbfkfjhgfieaagreat", sum := "fb39dcf333d2944a5e587bc300b731774785abd2983bb9c796c2225b327cebae", func := "keelblock/keelblocklaw07.PermitReplays", spec := "permitReplays", inPlace := ["maps.clone"], unfollowed := true, recurses := true, apart := false }
def PermitReplaysSaid : Prop := permitReplaysRow.holds Tryz.pinned (OpenSpec.ofChange permitReplaysSpec)

/-- ITS FALSE NEIGHBOUR: 'it returns false'. Refute it at one input. -/
def permitReplaysWrong : ChangeSpec := { name := "permitReplays", fn := fun _ => fun
  | [d1, d2] => { results := [.lit (.bool false)], args := [d1, d2] }
  | _ => none }
def PermitReplaysWrongFalsely : Prop := permitReplaysRow.holds Tryz.pinned (OpenSpec.ofChange permitReplaysWrong)

/-- 'keelblocklaw07.PermitInterlock': WHATEVER THE INPUT: true; the input reads as it did. -/
def permitInterlockSpec : ChangeSpec := { name := "permitInterlock", fn := fun _ => fun
  | [d1, d2] => { results := [.lit (.bool true)], args := [d1, d2] }
  | _ => none }
def permitInterlockRow : OpenClaim := { program := "ytekbfkfjhgfieaagreat", sum := "fb39dcf333d2944a5e587bc300b731774785abd2983bb9c796c2225b327cebae", func := "keelblock/keelblocklaw07.PermitInterlock", spec := "permitInterlock", unfollowed := true, recurses := true, apart := false }
def PermitInterlockSaid : Prop := permitInterlockRow.holds Tryz.pinned (OpenSpec.ofChange permitInterlockSpec)

/-- ITS FALSE NEIGHBOUR: 'it returns false'. Refute it at one input. -/
def permitInterlockWrong : ChangeSpec := { name := "permitInterlock", fn := fun _ => fun
  | [d1, d2] => { results := [.lit (.bool false)], args := [d1, d2] }
  | _ => none }
def PermitInterlockWrongFalsely : Prop := permitInterlockRow.holds Tryz.pinned (OpenSpec.ofChange permitInterlockWrong)

/-- 'keelblocklaw07.PermitQuestions': WHATEVER THE INPUT: true; the input reads as it did. -/
def permitQuestionsSpec : ChangeSpec := { name := "permitQuestions", fn := fun _ => fun
  | [d1, d2, d3] => { results := [.lit (.bool true)], args := [d1, d2, d3] }
  | _ => none }
def permitQuestionsRow : OpenClaim := { program := "ytekbfkfjhgfieaagreat", sum := "fb39dcf333d2944a5e587bc300b731774785abd2983bb9c796c2225b327cebae", func := "keelblock/keelblocklaw07.PermitQuestions", spec := "permitQuestions", unfollowed := true, recurses := true, apart := false }
def PermitQuestionsSaid : Prop := permitQuestionsRow.holds Tryz.pinned (OpenSpec.ofChange permitQuestionsSpec)

/-- ITS FALSE NEIGHBOUR: 'it returns false'. Refute it at one input. -/
def permitQuestionsWrong : ChangeSpec := { name := "permitQuestions", fn := fun _ => fun
  | [d1, d2, d3] => { results := [.lit (.bool false)], args := [d1, d2, d3] }
  | _ => none }
def PermitQuestionsWrongFalsely : Prop := permitQuestionsRow.holds Tryz.pinned (OpenSpec.ofChange permitQuestionsWrong)

/-- 'keelblocktop.TopNoTwoIncompatible': WHATEVER THE INPUT: true; the input reads as it did. -/
def topNoTwoIncompatibleSpec : ChangeSpec := { name := "topNoTwoIncompatible", fn := fun _ => fun
  | [d1, d2, d3] => { results := [.lit (.bool true)], args := [d1, d2, d3] }
  | _ => none }
def topNoTwoIncompatibleRow : OpenClaim := { program := "ytekbfkfjhgfieaagreat", sum := "fb39dcf333d2944a5e587bc300b731774785abd2983bb9c796c2225b327cebae", func := "keelblock/keelblocktop.TopNoTwoIncompatible", spec := "topNoTwoIncompatible", inPlace := ["maps.clone"], unfollowed := true, recurses := true, apart := false }
def TopNoTwoIncompatibleSaid : Prop := topNoTwoIncompatibleRow.holds Tryz.pinned (OpenSpec.ofChange topNoTwoIncompatibleSpec)

/-- ITS FALSE NEIGHBOUR: 'it returns false'. Refute it at one input. -/
def topNoTwoIncompatibleWrong : ChangeSpec := { name := "topNoTwoIncompatible", fn := fun _ => fun
  | [d1, d2, d3] => { results := [.lit (.bool false)], args := [d1, d2, d3] }
  | _ => none }
def TopNoTwoIncompatibleWrongFalsely : Prop := topNoTwoIncompatibleRow.holds Tryz.pinned (OpenSpec.ofChange topNoTwoIncompatibleWrong)

/-- 'keelblocklaw07.PermitNil': WHATEVER THE INPUT: true; the input reads as it did. -/
def permitNilSpec : ChangeSpec := { name := "permitNil", fn := fun _ => fun
  | [d1, d2] => { results := [.lit (.bool true)], args := [d1, d2] }
  | _ => none }
def permitNilRow : OpenClaim := { program := "ytekbfkfjhgfieaagreat", sum := "fb39dcf333d2944a5e587bc300b731774785abd2983bb9c796c2225b327cebae", func := "keelblock/keelblocklaw07.PermitNil", spec := "permitNil", unfollowed := true, recurses := true, apart := false }
def PermitNilSaid : Prop := permitNilRow.holds Tryz.pinned (OpenSpec.ofChange permitNilSpec)

/-- ITS FALSE NEIGHBOUR: 'it returns false'. Refute it at one input. -/
def permitNilWrong : ChangeSpec := { name := "permitNil", fn := fun _ => fun
  | [d1, d2] => { results := [.lit (.bool false)], args := [d1, d2] }
  | _ => none }
def PermitNilWrongFalsely : Prop := permitNilRow.holds Tryz.pinned (OpenSpec.ofChange permitNilWrong)

/-- 'keelblocklaw07.PermitSets': WHATEVER THE INPUT: true; the input reads as it did. -/
def permitSetsSpec : ChangeSpec := { name := "permitSets", fn := fun _ => fun
  | [d] => { results := [.lit (.bool true)], args := [d] }
  | _ => none }
def permitSetsRow : OpenClaim := { program := "ytekbfkfjhgfieaagreat", sum := "fb39dcf333d2944a5e587bc300b731774785abd2983bb9c796c2225b327cebae", func := "keelblock/keelblocklaw07.PermitSets", spec := "permitSets", unfollowed := true, recurses := true, apart := false }
def PermitSetsSaid : Prop := permitSetsRow.holds Tryz.pinned (OpenSpec.ofChange permitSetsSpec)

/-- ITS FALSE NEIGHBOUR: 'it returns false'. Refute it at one input. -/
def permitSetsWrong : ChangeSpec := { name := "permitSets", fn := fun _ => fun
  | [d] => { results := [.lit (.bool false)], args := [d] }
  | _ => none }
def PermitSetsWrongFalsely : Prop := permitSetsRow.holds Tryz.pinned (OpenSpec.ofChange permitSetsWrong)

/-- 'keelblocklaw07.PermitReached': WHATEVER THE INPUT: true; the input reads as it did. -/
def permitReachedSpec : ChangeSpec := { name := "permitReached", fn := fun _ => fun
  | [d1, d2] => { results := [.lit (.bool true)], args := [d1, d2] }
  | _ => none }
def permitReachedRow : OpenClaim := { program := "ytekbfkfjhgfieaagreat", sum := "fb39dcf333d2944a5e587bc300b731774785abd2983bb9c796c2225b327cebae", func := "keelblock/keelblocklaw07.PermitReached", spec := "permitReached", unfollowed := true, recurses := true, apart := false }
def PermitReachedSaid : Prop := permitReachedRow.holds Tryz.pinned (OpenSpec.ofChange permitReachedSpec)

/-- ITS FALSE NEIGHBOUR: 'it returns false'. Refute it at one input. -/
def permitReachedWrong : ChangeSpec := { name := "permitReached", fn := fun _ => fun
  | [d1, d2] => { results := [.lit (.bool false)], args := [d1, d2] }
  | _ => none }
def PermitReachedWrongFalsely : Prop := permitReachedRow.holds Tryz.pinned (OpenSpec.ofChange permitReachedWrong)

/-- 'keelblocklaw07.PermitMaximal': WHATEVER THE INPUT: true; the input reads as it did. -/
def permitMaximalSpec : ChangeSpec := { name := "permitMaximal", fn := fun _ => fun
  | [d1, d2] => { results := [.lit (.bool true)], args := [d1, d2] }
  | _ => none }
def permitMaximalRow : OpenClaim := { program := "ytekbfkfjhgfieaagreat", sum := "fb39dcf333d2944a5e587bc300b731774785abd2983bb9c796c2225b327cebae", func := "keelblock/keelblocklaw07.PermitMaximal", spec := "permitMaximal", unfollowed := true, recurses := true, apart := false }
def PermitMaximalSaid : Prop := permitMaximalRow.holds Tryz.pinned (OpenSpec.ofChange permitMaximalSpec)

/-- ITS FALSE NEIGHBOUR: 'it returns false'. Refute it at one input. -/
def permitMaximalWrong : ChangeSpec := { name := "permitMaximal", fn := fun _ => fun
  | [d1, d2] => { results := [.lit (.bool false)], args := [d1, d2] }
  | _ => none }
def PermitMaximalWrongFalsely : Prop := permitMaximalRow.holds Tryz.pinned (OpenSpec.ofChange permitMaximalWrong)

/-- 'keelblocktop.TopReachedSets': WHATEVER THE INPUT: true; the input reads as it did. -/
def topReachedSetsSpec : ChangeSpec := { name := "topReachedSets", fn := fun _ => fun
  | [d1, d2] => { results := [.lit (.bool true)], args := [d1, d2] }
  | _ => none }
def topReachedSetsRow : OpenClaim := { program := "ytekbfkfjhgfieaagreat", sum := "fb39dcf333d2944a5e587bc300b731774785abd2983bb9c796c2225b327cebae", func := "keelblock/keelblocktop.TopReachedSets", spec := "topReachedSets", unfollowed := true, recurses := true, apart := false }
def TopReachedSetsSaid : Prop := topReachedSetsRow.holds Tryz.pinned (OpenSpec.ofChange topReachedSetsSpec)

/-- ITS FALSE NEIGHBOUR: 'it returns false'. Refute it at one input. -/
def topReachedSetsWrong : ChangeSpec := { name := "topReachedSets", fn := fun _ => fun
  | [d1, d2] => { results := [.lit (.bool false)], args := [d1, d2] }
  | _ => none }
def TopReachedSetsWrongFalsely : Prop := topReachedSetsRow.holds Tryz.pinned (OpenSpec.ofChange topReachedSetsWrong)

/- THE SECOND FORM. 'bulk': how many values and letters a reading holds, each counted each time it is reached (what is shared counts as often as it is met; a slice's spare places count too). A statement '..UptoSaid' is the law's where the arguments, and the package variables that the reading takes, are together of bulk at most 1048576: NARROWER than '..Said'. Prove '..Said' where nothing that the law and all that it calls make is longer than what came in: it says more and counts as full. Else prove '..UptoSaid'. A law counts once. -/
mutual
def uptoBulk {H : Type} : DataW H → Nat
  | .lit (.string bytes) => bytes.length + 1
  | .lit _ => 1
  | .nil => 1
  | .ptr d => uptoBulk d + 1
  | .slice elems spare => uptoBulkAll elems + uptoBulkAll spare + 1
  | .agg parts => uptoBulkAll parts + 1
  | .iface _ d => uptoBulk d + 1
  | .map entries => uptoBulkEntries entries + 1
  | .held _ => 1
def uptoBulkAll {H : Type} : List (DataW H) → Nat
  | [] => 0
  | d :: r => uptoBulk d + uptoBulkAll r
def uptoBulkEntries {H : Type} : List (Lit × DataW H) → Nat
  | [] => 0
  | x :: r => uptoBulkEntry x + uptoBulkEntries r
def uptoBulkEntry {H : Type} : Lit × DataW H → Nat
  | (.string bytes, d) => bytes.length + uptoBulk d + 1
  | (_, d) => uptoBulk d + 1
 end
def uptoSmall : (H : Type) → List (DataW H) → Bool := fun _ ds => decide (uptoBulkAll ds ≤ 1048576)
def OpenSpec.upto (s : _root_.Go.ChangeSpec) : _root_.Go.OpenSpec := { _root_.Go.OpenSpec.ofChange s with cond := some uptoSmall }

/-- 'keelblocklaw07.PermitEvents', WHERE WHAT IT READS IS OF BULK AT MOST 1048576: true; the input reads as it did. -/
def permitEventsUptoRow : OpenClaim := { program := "ytekbfkfjhgfieaagreat", sum := "fb39dcf333d2944a5e587bc300b731774785abd2983bb9c796c2225b327cebae", func := "keelblock/keelblocklaw07.PermitEvents", spec := "permitEvents", unfollowed := true, recurses := true, apart := false, narrowed := true }
def PermitEventsUptoSaid : Prop := permitEventsUptoRow.holds Tryz.pinned (OpenSpec.upto permitEventsSpec)

/-- 'keelblocklaw07.PermitPlans', WHERE WHAT IT READS IS OF BULK AT MOST 1048576: true; the input reads as it did. -/
def permitPlansUptoRow : OpenClaim := { program := "ytekbfkfjhgfieaagreat", sum := "fb39dcf333d2944a5e587bc300b731774785abd2983bb9c796c2225b327cebae", func := "keelblock/keelblocklaw07.PermitPlans", spec := "permitPlans", unfollowed := true, recurses := true, apart := false, narrowed := true }
def PermitPlansUptoSaid : Prop := permitPlansUptoRow.holds Tryz.pinned (OpenSpec.upto permitPlansSpec)

/-- 'keelblocklaw07.PermitSymmetric', WHERE WHAT IT READS IS OF BULK AT MOST 1048576: true; the input reads as it did. -/
def permitSymmetricUptoRow : OpenClaim := { program := "ytekbfkfjhgfieaagreat", sum := "fb39dcf333d2944a5e587bc300b731774785abd2983bb9c796c2225b327cebae", func := "keelblock/keelblocklaw07.PermitSymmetric", spec := "permitSymmetric", unfollowed := true, recurses := true, apart := false, narrowed := true }
def PermitSymmetricUptoSaid : Prop := permitSymmetricUptoRow.holds Tryz.pinned (OpenSpec.upto permitSymmetricSpec)

/-- 'keelblocklaw07.PermitEnds', WHERE WHAT IT READS IS OF BULK AT MOST 1048576: true; the input reads as it did. -/
def permitEndsUptoRow : OpenClaim := { program := "ytekbfkfjhgfieaagreat", sum := "fb39dcf333d2944a5e587bc300b731774785abd2983bb9c796c2225b327cebae", func := "keelblock/keelblocklaw07.PermitEnds", spec := "permitEnds", unfollowed := true, recurses := true, apart := false, narrowed := true }
def PermitEndsUptoSaid : Prop := permitEndsUptoRow.holds Tryz.pinned (OpenSpec.upto permitEndsSpec)

/-- 'keelblocklaw07.PermitRelations', WHERE WHAT IT READS IS OF BULK AT MOST 1048576: true; the input reads as it did. -/
def permitRelationsUptoRow : OpenClaim := { program := "ytekbfkfjhgfieaagreat", sum := "fb39dcf333d2944a5e587bc300b731774785abd2983bb9c796c2225b327cebae", func := "keelblock/keelblocklaw07.PermitRelations", spec := "permitRelations", unfollowed := true, recurses := true, apart := false, narrowed := true }
def PermitRelationsUptoSaid : Prop := permitRelationsUptoRow.holds Tryz.pinned (OpenSpec.upto permitRelationsSpec)

/-- 'keelblocklaw07.PermitCompatible', WHERE WHAT IT READS IS OF BULK AT MOST 1048576: true; the input reads as it did. -/
def permitCompatibleUptoRow : OpenClaim := { program := "ytekbfkfjhgfieaagreat", sum := "fb39dcf333d2944a5e587bc300b731774785abd2983bb9c796c2225b327cebae", func := "keelblock/keelblocklaw07.PermitCompatible", spec := "permitCompatible", unfollowed := true, recurses := true, apart := false, narrowed := true }
def PermitCompatibleUptoSaid : Prop := permitCompatibleUptoRow.holds Tryz.pinned (OpenSpec.upto permitCompatibleSpec)

/-- 'keelblocklaw07.PermitAir', WHERE WHAT IT READS IS OF BULK AT MOST 1048576: true; the input reads as it did. -/
def permitAirUptoRow : OpenClaim := { program := "ytekbfkfjhgfieaagreat", sum := "fb39dcf333d2944a5e587bc300b731774785abd2983bb9c796c2225b327cebae", func := "keelblock/keelblocklaw07.PermitAir", spec := "permitAir", unfollowed := true, recurses := true, apart := false, narrowed := true }
def PermitAirUptoSaid : Prop := permitAirUptoRow.holds Tryz.pinned (OpenSpec.upto permitAirSpec)

/-- 'keelblocklaw07.PermitReplays', WHERE WHAT IT READS IS OF BULK AT MOST 1048576: true; the input reads as it did. -/
def permitReplaysUptoRow : OpenClaim := { program := "ytekbfkfjhgfieaagreat", sum := "fb39dcf333d2944a5e587bc300b731774785abd2983bb9c796c2225b327cebae", func := "keelblock/keelblocklaw07.PermitReplays", spec := "permitReplays", inPlace := ["maps.clone"], unfollowed := true, recurses := true, apart := false, narrowed := true }
def PermitReplaysUptoSaid : Prop := permitReplaysUptoRow.holds Tryz.pinned (OpenSpec.upto permitReplaysSpec)

/-- 'keelblocklaw07.PermitInterlock', WHERE WHAT IT READS IS OF BULK AT MOST 1048576: true; the input reads as it did. -/
def permitInterlockUptoRow : OpenClaim := { program := "ytekbfkfjhgfieaagreat", sum := "fb39dcf333d2944a5e587bc300b731774785abd2983bb9c796c2225b327cebae", func := "keelblock/keelblocklaw07.PermitInterlock", spec := "permitInterlock", unfollowed := true, recurses := true, apart := false, narrowed := true }
def PermitInterlockUptoSaid : Prop := permitInterlockUptoRow.holds Tryz.pinned (OpenSpec.upto permitInterlockSpec)

/-- 'keelblocklaw07.PermitQuestions', WHERE WHAT IT READS IS OF BULK AT MOST 1048576: true; the input reads as it did. -/
def permitQuestionsUptoRow : OpenClaim := { program := "ytekbfkfjhgfieaagreat", sum := "fb39dcf333d2944a5e587bc300b731774785abd2983bb9c796c2225b327cebae", func := "keelblock/keelblocklaw07.PermitQuestions", spec := "permitQuestions", unfollowed := true, recurses := true, apart := false, narrowed := true }
def PermitQuestionsUptoSaid : Prop := permitQuestionsUptoRow.holds Tryz.pinned (OpenSpec.upto permitQuestionsSpec)

/-- 'keelblocktop.TopNoTwoIncompatible', WHERE WHAT IT READS IS OF BULK AT MOST 1048576: true; the input reads as it did. -/
def topNoTwoIncompatibleUptoRow : OpenClaim := { program := "ytekbfkfjhgfieaagreat", sum := "fb39dcf333d2944a5e587bc300b731774785abd2983bb9c796c2225b327cebae", func := "keelblock/keelblocktop.TopNoTwoIncompatible", spec := "topNoTwoIncompatible", inPlace := ["maps.clone"], unfollowed := true, recurses := true, apart := false, narrowed := true }
def TopNoTwoIncompatibleUptoSaid : Prop := topNoTwoIncompatibleUptoRow.holds Tryz.pinned (OpenSpec.upto topNoTwoIncompatibleSpec)

/-- 'keelblocklaw07.PermitNil', WHERE WHAT IT READS IS OF BULK AT MOST 1048576: true; the input reads as it did. -/
def permitNilUptoRow : OpenClaim := { program := "ytekbfkfjhgfieaagreat", sum := "fb39dcf333d2944a5e587bc300b731774785abd2983bb9c796c2225b327cebae", func := "keelblock/keelblocklaw07.PermitNil", spec := "permitNil", unfollowed := true, recurses := true, apart := false, narrowed := true }
def PermitNilUptoSaid : Prop := permitNilUptoRow.holds Tryz.pinned (OpenSpec.upto permitNilSpec)

/-- 'keelblocklaw07.PermitSets', WHERE WHAT IT READS IS OF BULK AT MOST 1048576: true; the input reads as it did. -/
def permitSetsUptoRow : OpenClaim := { program := "ytekbfkfjhgfieaagreat", sum := "fb39dcf333d2944a5e587bc300b731774785abd2983bb9c796c2225b327cebae", func := "keelblock/keelblocklaw07.PermitSets", spec := "permitSets", unfollowed := true, recurses := true, apart := false, narrowed := true }
def PermitSetsUptoSaid : Prop := permitSetsUptoRow.holds Tryz.pinned (OpenSpec.upto permitSetsSpec)

/-- 'keelblocklaw07.PermitReached', WHERE WHAT IT READS IS OF BULK AT MOST 1048576: true; the input reads as it did. -/
def permitReachedUptoRow : OpenClaim := { program := "ytekbfkfjhgfieaagreat", sum := "fb39dcf333d2944a5e587bc300b731774785abd2983bb9c796c2225b327cebae", func := "keelblock/keelblocklaw07.PermitReached", spec := "permitReached", unfollowed := true, recurses := true, apart := false, narrowed := true }
def PermitReachedUptoSaid : Prop := permitReachedUptoRow.holds Tryz.pinned (OpenSpec.upto permitReachedSpec)

/-- 'keelblocklaw07.PermitMaximal', WHERE WHAT IT READS IS OF BULK AT MOST 1048576: true; the input reads as it did. -/
def permitMaximalUptoRow : OpenClaim := { program := "ytekbfkfjhgfieaagreat", sum := "fb39dcf333d2944a5e587bc300b731774785abd2983bb9c796c2225b327cebae", func := "keelblock/keelblocklaw07.PermitMaximal", spec := "permitMaximal", unfollowed := true, recurses := true, apart := false, narrowed := true }
def PermitMaximalUptoSaid : Prop := permitMaximalUptoRow.holds Tryz.pinned (OpenSpec.upto permitMaximalSpec)

/-- 'keelblocktop.TopReachedSets', WHERE WHAT IT READS IS OF BULK AT MOST 1048576: true; the input reads as it did. -/
def topReachedSetsUptoRow : OpenClaim := { program := "ytekbfkfjhgfieaagreat", sum := "fb39dcf333d2944a5e587bc300b731774785abd2983bb9c796c2225b327cebae", func := "keelblock/keelblocktop.TopReachedSets", spec := "topReachedSets", unfollowed := true, recurses := true, apart := false, narrowed := true }
def TopReachedSetsUptoSaid : Prop := topReachedSetsUptoRow.holds Tryz.pinned (OpenSpec.upto topReachedSetsSpec)

end Rows
end Go.Proofs.YtekbfkfjhgfieaaGreat
