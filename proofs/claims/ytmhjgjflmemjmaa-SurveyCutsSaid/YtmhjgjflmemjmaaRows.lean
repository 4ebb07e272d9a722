/-
  NARROWER THAN 'FOR EVERY INPUT', by the rows' own cells (each row's printed sentence says how): SurveyCuts: loops.
  DERIVED. THE GIVEN ROWS OF THIS SEAT. 1 by the template 'for every input the law returns true; each argument reads behind the call as it read before'; 0 by the template 'total and deterministic' (their statements: YtmhjgjflmemjmaaTotals.lean).
  GIVEN WITH THE SEED: the statements are not yours to turn. If you find one false, say at which input.
  Laid BY PROGRAM, IN A SANDBOX (cutbox-rows.mjs): the forced cells as the released guide's own fill.sh prints them over the translation c30197cd1862b8df… (all of the seat's roots in one cut). By AI agents, Wed Nov 11 2026. No macro, syntax, notation, axiom, sorry.
-/
import Derived.Test.YtmhjgjflmemjmaaChecked
import GoSem.Claim
import GoSem.ClaimJoined
import GoSem.ClaimMapViews
import Derived.JoinedTies
import Derived.KernelRfl
namespace Go.Proofs.Ytmhjgjflmemjmaa
/- THE CELL 'sum', in the pinned program and in every row, IS THE sha256 OF THE DUMP (.gsa) THAT YtmhjgjflmemjmaaProg.lean LOADS. Nothing in Lean hashes anything: it is a label: what it is worth is what the hold of that sum in a sandbox is worth. -/
noncomputable def Try.pinned : Pinned := { name := "ytmhjgjflmemjmaa", sum := "c30197cd1862b8dfcad18fb881fbc71d182b1665f017da2dee8a2122646e9c8a", checked := Try.checked }
namespace Rows
def none {H : Type} : Left H := { results := [], args := [] }

/-- 'keelblocklaw09.SurveyCuts': WHATEVER THE INPUT: true; the input reads as it did. -/
def surveyCutsSpec : ChangeSpec := { name := "surveyCuts", fn := fun _ => fun
  | [d1, d2, d3] => { results := [.lit (.bool true)], args := [d1, d2, d3] }
  | _ => none }
def surveyCutsRow : OpenClaim := { program := "ytmhjgjflmemjmaa", sum := "c30197cd1862b8dfcad18fb881fbc71d182b1665f017da2dee8a2122646e9c8a", func := "keelblock/keelblocklaw09.SurveyCuts", spec := "surveyCuts", unfollowed := true, recurses := true, loops := true, apart := false }
def SurveyCutsSaid : Prop := surveyCutsRow.holds Try.pinned (OpenSpec.ofChange surveyCutsSpec)

/-- ITS FALSE NEIGHBOUR: 'it returns false'. Refute it at one input. -/
def surveyCutsWrong : ChangeSpec := { name := "surveyCuts", fn := fun _ => fun
  | [d1, d2, d3] => { results := [.lit (.bool false)], args := [d1, d2, d3] }
  | _ => none }
def SurveyCutsWrongFalsely : Prop := surveyCutsRow.holds Try.pinned (OpenSpec.ofChange surveyCutsWrong)

/- THE SECOND FORM. 'bulk': how many values and letters a reading holds, each counted each time it is reached (what is shared counts as often as it is met; a slice's spare places count too). A statement '..UptoSaid' is the law's where the arguments, and the package variables that the reading takes, are together of bulk at most 1048576: NARROWER than '..Said'. Prove '..Said' where nothing that the law and all that it calls make is longer than what came in: it says more and counts as full. Else prove '..UptoSaid'. A law counts once. -/
mutual
def uptoBulk {H : Type} : DataW H → Nat
  | .lit (.string bytes) => bytes.length + 1
  | .lit _ => 1
  | .nil => 1
  | .ptr d => uptoBulk d + 1
  | .slice elems spare => uptoBulkAll elems + uptoBulkAll spare + 1
  | .agg parts => uptoBulkAll parts + 1
  | .iface _ d => uptoBulk d + 1
  | .map entries => uptoBulkEntries entries + 1
  | .held _ => 1
def uptoBulkAll {H : Type} : List (DataW H) → Nat
  | [] => 0
  | d :: r => uptoBulk d + uptoBulkAll r
def uptoBulkEntries {H : Type} : List (Lit × DataW H) → Nat
  | [] => 0
  | x :: r => uptoBulkEntry x + uptoBulkEntries r
def uptoBulkEntry {H : Type} : Lit × DataW H → Nat
  | (.string bytes, d) => bytes.length + uptoBulk d + 1
  | (_, d) => uptoBulk d + 1
 end
def uptoSmall : (H : Type) → List (DataW H) → Bool := fun _ ds => decide (uptoBulkAll ds ≤ 1048576)
def OpenSpec.upto (s : _root_.Go.ChangeSpec) : _root_.Go.OpenSpec := { _root_.Go.OpenSpec.ofChange s with cond := some uptoSmall }

/-- 'keelblocklaw09.SurveyCuts', WHERE WHAT IT READS IS OF BULK AT MOST 1048576: true; the input reads as it did. -/
def surveyCutsUptoRow : OpenClaim := { program := "ytmhjgjflmemjmaa", sum := "c30197cd1862b8dfcad18fb881fbc71d182b1665f017da2dee8a2122646e9c8a", func := "keelblock/keelblocklaw09.SurveyCuts", spec := "surveyCuts", unfollowed := true, recurses := true, loops := true, apart := false, narrowed := true }
def SurveyCutsUptoSaid : Prop := surveyCutsUptoRow.holds Try.pinned (OpenSpec.upto surveyCutsSpec)

end Rows
end Go.Proofs.Ytmhjgjflmemjmaa
