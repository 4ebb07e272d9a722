/-
  No cell of these rows narrows 'for every input' (looked for: loops, veiled, ifaces, maps, wideKeys, modest, calm, conditions, laid).
  DERIVED. THE GIVEN ROWS OF THIS SEAT. 6 by the template 'for every input the law returns true; each argument reads behind the call as it read before'; 0 by the template 'total and deterministic' (their statements: YtalkbgomndhkmaaGreatTotals.lean).
  GIVEN WITH THE SEED: the statements are not yours to turn. If you find one false, say at which input.
  Laid BY PROGRAM, IN A SANDBOX (cutbox-rows.mjs): the forced cells as the released guide's own fill.sh prints them over the translation 83577e8dca1f6f58… (all of the seat's roots in one cut). By AI agents, Wed Nov 11 2026. No macro, syntax, notation, axiom, sorry.
-/
import Derived.Test.YtalkbgomndhkmaaGreatChecked
import GoSem.Claim
import GoSem.ClaimJoined
import GoSem.ClaimMapViews
import Derived.JoinedTies
import Derived.KernelRfl
namespace Go.Proofs.YtalkbgomndhkmaaGreat
/- THE CELL 'sum', in the pinned program and in every row, IS THE sha256 OF THE DUMP (.gsa) THAT YtalkbgomndhkmaaGreatProg.lean LOADS. Nothing in Lean hashes anything: it is a label: what it is worth is what the hold of that sum in a sandbox is worth. -/
noncomputable def Tryz.pinned : Pinned := { name := "ytalkbgomndhkmaagreat", sum := "83577e8dca1f6f58e150903bed424a4ec875438107b2fb86eeb703f23fcd2958", checked := Tryz.checked }
namespace Rows
def none {H : Type} : Left H := { results := [], args := [] }

/-- 'keelblocklaw07.PermitReplays': WHATEVER THE INPUT: true; the input reads as it did. -/
def permitReplaysSpec : ChangeSpec := { name := "permitReplays", fn := fun _ => fun
  | [d1, d2] => { results := [.lit (.bool true)], args := [d1, d2] }
  | _ => none }
def permitReplaysRow : OpenClaim := { program := "ytalkbgomndhkmaagreat", sum := "83577e8dca1f6f58e150903bed424a4ec875438107b2fb86eeb703f23fcd2958", func := "keelblock/keelblocklaw07.PermitReplays", spec := "permitReplays", inPlace := ["maps.clone"], unfollowed := true, recurses := true, apart := false }
def PermitReplaysSaid : Prop := permitReplaysRow.holds Tryz.pinned (OpenSpec.ofChange permitReplaysSpec)

/-- ITS FALSE NEIGHBOUR: 'it returns false'. Refute it at one input. -/
def permitReplaysWrong : ChangeSpec := { name := "permitReplays", fn := fun _ => fun
  | [d1, d2] => { results := [.lit (.bool false)], args := [d1, d2] }
  | _ => none }
def PermitReplaysWrongFalsely : Prop := permitReplaysRow.holds Tryz.pinned (OpenSpec.ofChange permitReplaysWrong)

/-- 'keelblocktop.TopNoTwoIncompatible': WHATEVER THE INPUT: true; the input reads as it did. -/
def topNoTwoIncompatibleSpec : ChangeSpec := { name := "topNoTwoIncompatible", fn := fun _ => fun
  | [d1, d2, d3] => { results := [.lit (.bool true)], args := [d1, d2, d3] }
  | _ => none }
def topNoTwoIncompatibleRow : OpenClaim := { program := "ytalkbgomndhkmaagreat", sum := "83577e8dca1f6f58e150903bed424a4ec875438107b2fb86eeb703f23fcd2958", func := "keelblock/keelblocktop.TopNoTwoIncompatible", spec := "topNoTwoIncompatible", inPlace := ["maps.clone"], unfollowed := true, recurses := true, apart := false }
def TopNoTwoIncompatibleSaid : Prop := topNoTwoIncompatibleRow.holds Tryz.pinned (OpenSpec.ofChange topNoTwoIncompatibleSpec)

/-- ITS FALSE NEIGHBOUR: 'it returns false'. Refute it at one input. -/
def topNoTwoIncompatibleWrong : ChangeSpec := { name := "topNoTwoIncompatible", fn := fun _ => fun
  | [d1, d2, d3] => { results := [.lit (.bool false)], args := [d1, d2, d3] }
  | _ => none }
def TopNoTwoIncompatibleWrongFalsely : Prop := topNoTwoIncompatibleRow.holds Tryz.pinned (OpenSpec.ofChange topNoTwoIncompatibleWrong)

/-- 'keelblocklaw07.PermitSets': WHATEVER THE INPUT: true; the input reads as it did. -/
def permitSetsSpec : ChangeSpec := { name := "permitSets", fn := fun _ => fun
  | [d] => { results := [.lit (.bool true)], args := [d] }
  | _ => none }
def permitSetsRow : OpenClaim := { program := "ytalkbgomndhkmaagreat", sum := "83577e8dca1f6f58e150903bed424a4ec875438107b2fb86eeb703f23fcd2958", func := "keelblock/keelblocklaw07.PermitSets", spec := "permitSets", unfollowed := true, recurses := true, apart := false }
def PermitSetsSaid : Prop := permitSetsRow.holds Tryz.pinned (OpenSpec.ofChange permitSetsSpec)

/-- ITS FALSE NEIGHBOUR: 'it returns false'. Refute it at one input. -/
def permitSetsWrong : ChangeSpec := { name := "permitSets", fn := fun _ => fun
  | [d] => { results := [.lit (.bool false)], args := [d] }
  | _ => none }
def PermitSetsWrongFalsely : Prop := permitSetsRow.holds Tryz.pinned (OpenSpec.ofChange permitSetsWrong)

/-- 'keelblocklaw07.PermitReached': WHATEVER THE INPUT: true; the input reads as it did. -/
def permitReachedSpec : ChangeSpec := { name := "permitReached", fn := fun _ => fun
  | [d1, d2] => { results := [.lit (.bool true)], args := [d1, d2] }
  | _ => none }
def permitReachedRow : OpenClaim := { program := "ytalkbgomndhkmaagreat", sum := "83577e8dca1f6f58e150903bed424a4ec875438107b2fb86eeb703f23fcd2958", func := "keelblock/keelblocklaw07.PermitReached", spec := "permitReached", unfollowed := true, recurses := true, apart := false }
def PermitReachedSaid : Prop := permitReachedRow.holds Tryz.pinned (OpenSpec.ofChange permitReachedSpec)

/-- ITS FALSE NEIGHBOUR: 'it returns false'. Refute it at one input. -/
def permitReachedWrong : ChangeSpec := { name := "permitReached", fn := fun _ => fun
  | [d1, d2] => { results := [.lit (.bool false)], args := [d1, d2] }
  | _ => none }
def PermitReachedWrongFalsely : Prop := permitReachedRow.holds Tryz.pinned (OpenSpec.ofChange permitReachedWrong)

/-- 'keelblocklaw07.PermitMaximal': WHATEVER THE INPUT: true; the input reads as it did. -/
def permitMaximalSpec : ChangeSpec := { name := "permitMaximal", fn := fun _ => fun
  | [d1, d2] => { results := [.lit (.bool true)], args := [d1, d2] }
  | _ => none }
def permitMaximalRow : OpenClaim := { program := "ytalkbgomndhkmaagreat", sum := "83577e8dca1f6f58e150903bed424a4ec875438107b2fb86eeb703f23fcd2958", func := "keelblock/keelblocklaw07.PermitMaximal", spec := "permitMaximal", unfollowed := true, recurses := true, apart := false }
def PermitMaximalSaid : Prop := permitMaximalRow.holds Tryz.pinned (OpenSpec.ofChange permitMaximalSpec)

/-- ITS FALSE NEIGHBOUR: 'it returns false'. Refute it at one input. -/
def permitMaximalWrong : ChangeSpec := { name := "permitMaximal", fn := fun _ => fun
  | [d1, d2] => { results := [.lit (.bool false)], args := [d1, d2] }
  | _ => none }
def PermitMaximalWrongFalsely : Prop := permitMaximalRow.holds Tryz.pinned (OpenSpec.ofChange permitMaximalWrong)

/-- 'keelblocktop.TopReachedSets': WHATEVER THE INPUT: true; the input reads as it did. -/
def topReachedSetsSpec : ChangeSpec := { name := "topReachedSets", fn := fun _ => fun
  | [d1, d2] => { results := [.lit (.bool true)], args := [d1, d2] }
  | _ => none }
def topReachedSetsRow : OpenClaim := { program := "ytalkbgomndhkmaagreat", sum := "83577e8dca1f6f58e150903bed424a4ec875438107b2fb86eeb703f23fcd2958", func := "keelblock/keelblocktop.TopReachedSets", spec := "topReachedSets", unfollowed := true, recurses := true, apart := false }
def TopReachedSetsSaid : Prop := topReachedSetsRow.holds Tryz.pinned (OpenSpec.ofChange topReachedSetsSpec)

/-- ITS FALSE NEIGHBOUR: 'it returns false'. Refute it at one input. -/
def topReachedSetsWrong : ChangeSpec := { name := "topReachedSets", fn := fun _ => fun
  | [d1, d2] => { results := [.lit (.bool false)], args := [d1, d2] }
  | _ => none }
def TopReachedSetsWrongFalsely : Prop := topReachedSetsRow.holds Tryz.pinned (OpenSpec.ofChange topReachedSetsWrong)

/- THE SECOND FORM. 'bulk': how many values and letters a reading holds, each counted each time it is reached (what is shared counts as often as it is met; a slice's spare places count too). A statement '..UptoSaid' is the law's where the arguments, and the package variables that the reading takes, are together of bulk at most 1048576: NARROWER than '..Said'. Prove '..Said' where nothing that the law and all that it calls make is longer than what came in: it says more and counts as full. Else prove '..UptoSaid'. A law counts once. -/
mutual
def uptoBulk {H : Type} : DataW H → Nat
  | .lit (.string bytes) => bytes.length + 1
  | .lit _ => 1
  | .nil => 1
  | .ptr d => uptoBulk d + 1
  | .slice elems spare => uptoBulkAll elems + uptoBulkAll spare + 1
  | .agg parts => uptoBulkAll parts + 1
  | .iface _ d => uptoBulk d + 1
  | .map entries => uptoBulkEntries entries + 1
  | .held _ => 1
def uptoBulkAll {H : Type} : List (DataW H) → Nat
  | [] => 0
  | d :: r => uptoBulk d + uptoBulkAll r
def uptoBulkEntries {H : Type} : List (Lit × DataW H) → Nat
  | [] => 0
  | x :: r => uptoBulkEntry x + uptoBulkEntries r
def uptoBulkEntry {H : Type} : Lit × DataW H → Nat
  | (.string bytes, d) => bytes.length + uptoBulk d + 1
  | (_, d) => uptoBulk d + 1
 end
def uptoSmall : (H : Type) → List (DataW H) → Bool := fun _ ds => decide (uptoBulkAll ds ≤ 1048576)
def OpenSpec.upto (s : _root_.Go.ChangeSpec) : _root_.Go.OpenSpec := { _root_.Go.OpenSpec.ofChange s with cond := some uptoSmall }

/-- 'keelblocklaw07.PermitReplays', WHERE WHAT IT READS IS OF BULK AT MOST 1048576: true; the input reads as it did. -/
def permitReplaysUptoRow : OpenClaim := { program := "ytalkbgomndhkmaagreat", sum := "83577e8dca1f6f58e150903bed424a4ec875438107b2fb86eeb703f23fcd2958", func := "keelblock/keelblocklaw07.PermitReplays", spec := "permitReplays", inPlace := ["maps.clone"], unfollowed := true, recurses := true, apart := false, narrowed := true }
def PermitReplaysUptoSaid : Prop := permitReplaysUptoRow.holds Tryz.pinned (OpenSpec.upto permitReplaysSpec)

/-- 'keelblocktop.TopNoTwoIncompatible', WHERE WHAT IT READS IS OF BULK AT MOST 1048576: true; the input reads as it did. -/
def topNoTwoIncompatibleUptoRow : OpenClaim := { program := "ytalkbgomndhkmaagreat", sum := "83577e8dca1f6f58e150903bed424a4ec875438107b2fb86eeb703f23fcd2958", func := "keelblock/keelblocktop.TopNoTwoIncompatible", spec := "topNoTwoIncompatible", inPlace := ["maps.clone"], unfollowed := true, recurses := true, apart := false, narrowed := true }
def TopNoTwoIncompatibleUptoSaid : Prop := topNoTwoIncompatibleUptoRow.holds Tryz.pinned (OpenSpec.upto topNoTwoIncompatibleSpec)

/-- 'keelblocklaw07.PermitSets', WHERE WHAT IT READS IS OF BULK AT MOST 1048576: true; the input reads as it did. -/
def permitSetsUptoRow : OpenClaim := { program := "ytalkbgomndhkmaagreat", sum := "83577e8dca1f6f58e150903bed424a4ec875438107b2fb86eeb703f23fcd2958", func := "keelblock/keelblocklaw07.PermitSets", spec := "permitSets", unfollowed := true, recurses := true, apart := false, narrowed := true }
def PermitSetsUptoSaid : Prop := permitSetsUptoRow.holds Tryz.pinned (OpenSpec.upto permitSetsSpec)

/-- 'keelblocklaw07.PermitReached', WHERE WHAT IT READS IS OF BULK AT MOST 1048576: true; the input reads as it did. -/
def permitReachedUptoRow : OpenClaim := { program := "ytalkbgomndhkmaagreat", sum := "83577e8dca1f6f58e150903bed424a4ec875438107b2fb86eeb703f23fcd2958", func := "keelblock/keelblocklaw07.PermitReached", spec := "permitReached", unfollowed := true, recurses := true, apart := false, narrowed := true }
def PermitReachedUptoSaid : Prop := permitReachedUptoRow.holds Tryz.pinned (OpenSpec.upto permitReachedSpec)

/-- 'keelblocklaw07.PermitMaximal', WHERE WHAT IT READS IS OF BULK AT MOST 1048576: true; the input reads as it did. -/
def permitMaximalUptoRow : OpenClaim := { program := "ytalkbgomndhkmaagreat", sum := "83577e8dca1f6f58e150903bed424a4ec875438107b2fb86eeb703f23fcd2958", func := "keelblock/keelblocklaw07.PermitMaximal", spec := "permitMaximal", unfollowed := true, recurses := true, apart := false, narrowed := true }
def PermitMaximalUptoSaid : Prop := permitMaximalUptoRow.holds Tryz.pinned (OpenSpec.upto permitMaximalSpec)

/-- 'keelblocktop.TopReachedSets', WHERE WHAT IT READS IS OF BULK AT MOST 1048576: true; the input reads as it did. -/
def topReachedSetsUptoRow : OpenClaim := { program := "ytalkbgomndhkmaagreat", sum := "83577e8dca1f6f58e150903bed424a4ec875438107b2fb86eeb703f23fcd2958", func := "keelblock/keelblocktop.TopReachedSets", spec := "topReachedSets", unfollowed := true, recurses := true, apart := false, narrowed := true }
def TopReachedSetsUptoSaid : Prop := topReachedSetsUptoRow.holds Tryz.pinned (OpenSpec.upto topReachedSetsSpec)

end Rows
end Go.Proofs.YtalkbgomndhkmaaGreat
