/- Plain laws of chapter 7: why a permit is not opened. Plain laws of chapter 7: the people in the spaces, in the order of their names. Plain laws of chapter 7: what the program's office does. Plain laws of chapter 7: each event in the program's office. Plain laws of chapter 7: the program's office does what the office by names does. Plain laws of chapter 7: the examples. Plain laws of chapter 7: what the statements share. No condition. -/
import Derived.Test.YtalkbgomndhkmaaGreatPZn
import Derived.Test.YtalkbgomndhkmaaGreatGPure
import Derived.ProofKit
namespace Go.KB
set_option linter.unusedVariables false
section
variable {N:Nat} {p:GPermitPlan} {A:AO} {g:af} {st:List (Str×ah)} {Qb:List (Str×ak)} {pe:List (Str×Str)} (hp:J4 p) (ho:RJ p) (hN:1000000≤N) (h:RelA p A g st Qb pe) (b:BdA A)
include hp hN h
end
end Go.KB
namespace Go.KB
set_option linter.unusedVariables false
end Go.KB
namespace Go.KB
set_option linter.unusedVariables false
section
variable {N:Nat} {p:GPermitPlan} {A:AO} {g:af} {st:List (Str×ah)} {Qb:List (Str×ak)} {pe:List (Str×Str)} (hp:J4 p) (ho:RJ p) (hN:1000000≤N) (h:RelA p A g st Qb pe) (b:BdA A) (hpp:A.pp.Pairwise (fun a b=>a.1<b.1))
include hp hN h
include b hpp
include ho
end
end Go.KB
namespace Go.KB
set_option linter.unusedVariables false
section
variable {N:Nat} {p:GPermitPlan} {A:AO} {g:af} {st:List (Str×ah)} {Qb:List (Str×ak)} {pe:List (Str×Str)} (hp:J4 p) (ho:RJ p) (hN:1000000≤N) (h:RelA p A g st Qb pe) (b:BdA A) (hpp:A.pp.Pairwise (fun a b=>a.1<b.1))
include hN h
include hp b hpp ho
omit ho hpp b
include hpp
omit hpp
include ho
end
end Go.KB
namespace Go.KB
set_option linter.unusedVariables false
instance:Inhabited bC:=⟨⟨[],[],[],none⟩⟩
section
variable {N:Nat} {p:GPermitPlan} {A:AO} {g:af} {st:List (Str×ah)} {Qb:List (Str×ak)} {pe:List (Str×Str)} (hp:J4 p) (ho:RJ p) (hN:1000000≤N) (h:RelA p A g st Qb pe) (b:BdA A) (hpp:A.pp.Pairwise (fun a b=>a.1<b.1))
include hp hN h b hpp ho
end
end Go.KB
namespace Go.KB
set_option maxRecDepth 100000
theorem AU:wL (2 ^ 70)=some true:=by kernel_rfl
end Go.KB
namespace Go.KB
set_option linter.unusedVariables false
section
variable {N:Nat} {p:GPermitPlan} {A:AO} {g:af} {st:List (Str×ah)} {Qb:List (Str×ak)} {pe:List (Str×Str)}
end
end Go.KB
