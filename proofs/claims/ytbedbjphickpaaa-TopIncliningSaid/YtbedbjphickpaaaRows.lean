/-
  No cell of these rows narrows 'for every input' (looked for: loops, veiled, ifaces, maps, wideKeys, modest, calm, conditions, laid).
  DERIVED. THE GIVEN ROWS OF THIS SEAT. 3 by the template 'for every input the law returns true; each argument reads behind the call as it read before'; 0 by the template 'total and deterministic' (their statements: YtbedbjphickpaaaTotals.lean).
  GIVEN WITH THE SEED: the statements are not yours to turn. If you find one false, say at which input.
  Laid BY PROGRAM, IN A SANDBOX (cutbox-rows.mjs): the forced cells as the released guide's own fill.sh prints them over the translation a729fe5a629476fb… (all of the seat's roots in one cut). By AI agents, Wed Nov 11 2026. No macro, syntax, notation, axiom, sorry.
-/
import Derived.Test.YtbedbjphickpaaaChecked
import GoSem.Claim
import GoSem.ClaimJoined
import GoSem.ClaimMapViews
import Derived.JoinedTies
import Derived.KernelRfl
namespace Go.Proofs.Ytbedbjphickpaaa
/- THE CELL 'sum', in the pinned program and in every row, IS THE sha256 OF THE DUMP (.gsa) THAT YtbedbjphickpaaaProg.lean LOADS. Nothing in Lean hashes anything: it is a label: what it is worth is what the hold of that sum in a sandbox is worth. -/
noncomputable def Try.pinned : Pinned := { name := "ytbedbjphickpaaa", sum := "a729fe5a629476fb0c7b4696a84ebda790f7e2859242f4b31999ab2ee9ff4873", checked := Try.checked }
namespace Rows
def none {H : Type} : Left H := { results := [], args := [] }

/-- 'keelblocktop.TopInclining': WHATEVER THE INPUT: true; the input reads as it did. -/
def topIncliningSpec : ChangeSpec := { name := "topInclining", fn := fun _ => fun
  | [d1, d2, d3] => { results := [.lit (.bool true)], args := [d1, d2, d3] }
  | _ => none }
def topIncliningRow : OpenClaim := { program := "ytbedbjphickpaaa", sum := "a729fe5a629476fb0c7b4696a84ebda790f7e2859242f4b31999ab2ee9ff4873", func := "keelblock/keelblocktop.TopInclining", spec := "topInclining", unfollowed := true, recurses := true, apart := false }
def TopIncliningSaid : Prop := topIncliningRow.holds Try.pinned (OpenSpec.ofChange topIncliningSpec)

/-- ITS FALSE NEIGHBOUR: 'it returns false'. Refute it at one input. -/
def topIncliningWrong : ChangeSpec := { name := "topInclining", fn := fun _ => fun
  | [d1, d2, d3] => { results := [.lit (.bool false)], args := [d1, d2, d3] }
  | _ => none }
def TopIncliningWrongFalsely : Prop := topIncliningRow.holds Try.pinned (OpenSpec.ofChange topIncliningWrong)

/-- 'keelblocklaw02.HullChecks': WHATEVER THE INPUT: true; the input reads as it did. -/
def hullChecksSpec : ChangeSpec := { name := "hullChecks", fn := fun _ => fun
  | [d] => { results := [.lit (.bool true)], args := [d] }
  | _ => none }
def hullChecksRow : OpenClaim := { program := "ytbedbjphickpaaa", sum := "a729fe5a629476fb0c7b4696a84ebda790f7e2859242f4b31999ab2ee9ff4873", func := "keelblock/keelblocklaw02.HullChecks", spec := "hullChecks", unfollowed := true, recurses := true, apart := false }
def HullChecksSaid : Prop := hullChecksRow.holds Try.pinned (OpenSpec.ofChange hullChecksSpec)

/-- ITS FALSE NEIGHBOUR: 'it returns false'. Refute it at one input. -/
def hullChecksWrong : ChangeSpec := { name := "hullChecks", fn := fun _ => fun
  | [d] => { results := [.lit (.bool false)], args := [d] }
  | _ => none }
def HullChecksWrongFalsely : Prop := hullChecksRow.holds Try.pinned (OpenSpec.ofChange hullChecksWrong)

/-- 'keelblocklaw02.HullRises': WHATEVER THE INPUT: true; the input reads as it did. -/
def hullRisesSpec : ChangeSpec := { name := "hullRises", fn := fun _ => fun
  | [d1, d2, d3] => { results := [.lit (.bool true)], args := [d1, d2, d3] }
  | _ => none }
def hullRisesRow : OpenClaim := { program := "ytbedbjphickpaaa", sum := "a729fe5a629476fb0c7b4696a84ebda790f7e2859242f4b31999ab2ee9ff4873", func := "keelblock/keelblocklaw02.HullRises", spec := "hullRises", unfollowed := true, recurses := true, apart := false }
def HullRisesSaid : Prop := hullRisesRow.holds Try.pinned (OpenSpec.ofChange hullRisesSpec)

/-- ITS FALSE NEIGHBOUR: 'it returns false'. Refute it at one input. -/
def hullRisesWrong : ChangeSpec := { name := "hullRises", fn := fun _ => fun
  | [d1, d2, d3] => { results := [.lit (.bool false)], args := [d1, d2, d3] }
  | _ => none }
def HullRisesWrongFalsely : Prop := hullRisesRow.holds Try.pinned (OpenSpec.ofChange hullRisesWrong)

/- THE SECOND FORM. 'bulk': how many values and letters a reading holds, each counted each time it is reached (what is shared counts as often as it is met; a slice's spare places count too). A statement '..UptoSaid' is the law's where the arguments, and the package variables that the reading takes, are together of bulk at most 1048576: NARROWER than '..Said'. Prove '..Said' where nothing that the law and all that it calls make is longer than what came in: it says more and counts as full. Else prove '..UptoSaid'. A law counts once. -/
mutual
def uptoBulk {H : Type} : DataW H → Nat
  | .lit (.string bytes) => bytes.length + 1
  | .lit _ => 1
  | .nil => 1
  | .ptr d => uptoBulk d + 1
  | .slice elems spare => uptoBulkAll elems + uptoBulkAll spare + 1
  | .agg parts => uptoBulkAll parts + 1
  | .iface _ d => uptoBulk d + 1
  | .map entries => uptoBulkEntries entries + 1
  | .held _ => 1
def uptoBulkAll {H : Type} : List (DataW H) → Nat
  | [] => 0
  | d :: r => uptoBulk d + uptoBulkAll r
def uptoBulkEntries {H : Type} : List (Lit × DataW H) → Nat
  | [] => 0
  | x :: r => uptoBulkEntry x + uptoBulkEntries r
def uptoBulkEntry {H : Type} : Lit × DataW H → Nat
  | (.string bytes, d) => bytes.length + uptoBulk d + 1
  | (_, d) => uptoBulk d + 1
 end
def uptoSmall : (H : Type) → List (DataW H) → Bool := fun _ ds => decide (uptoBulkAll ds ≤ 1048576)
def OpenSpec.upto (s : _root_.Go.ChangeSpec) : _root_.Go.OpenSpec := { _root_.Go.OpenSpec.ofChange s with cond := some uptoSmall }

/-- 'keelblocktop.TopInclining', WHERE WHAT IT READS IS OF BULK AT MOST 1048576: true; the input reads as it did. -/
def topIncliningUptoRow : OpenClaim := { program := "ytbedbjphickpaaa", sum := "a729fe5a629476fb0c7b4696a84ebda790f7e2859242f4b31999ab2ee9ff4873", func := "keelblock/keelblocktop.TopInclining", spec := "topInclining", unfollowed := true, recurses := true, apart := false, narrowed := true }
def TopIncliningUptoSaid : Prop := topIncliningUptoRow.holds Try.pinned (OpenSpec.upto topIncliningSpec)

/-- 'keelblocklaw02.HullChecks', WHERE WHAT IT READS IS OF BULK AT MOST 1048576: true; the input reads as it did. -/
def hullChecksUptoRow : OpenClaim := { program := "ytbedbjphickpaaa", sum := "a729fe5a629476fb0c7b4696a84ebda790f7e2859242f4b31999ab2ee9ff4873", func := "keelblock/keelblocklaw02.HullChecks", spec := "hullChecks", unfollowed := true, recurses := true, apart := false, narrowed := true }
def HullChecksUptoSaid : Prop := hullChecksUptoRow.holds Try.pinned (OpenSpec.upto hullChecksSpec)

/-- 'keelblocklaw02.HullRises', WHERE WHAT IT READS IS OF BULK AT MOST 1048576: true; the input reads as it did. -/
def hullRisesUptoRow : OpenClaim := { program := "ytbedbjphickpaaa", sum := "a729fe5a629476fb0c7b4696a84ebda790f7e2859242f4b31999ab2ee9ff4873", func := "keelblock/keelblocklaw02.HullRises", spec := "hullRises", unfollowed := true, recurses := true, apart := false, narrowed := true }
def HullRisesUptoSaid : Prop := hullRisesUptoRow.holds Try.pinned (OpenSpec.upto hullRisesSpec)

end Rows
end Go.Proofs.Ytbedbjphickpaaa
