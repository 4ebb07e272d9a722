/- Plain laws of chapter 7: why a permit is not opened. Plain laws of chapter 7: the people in the spaces, in the order of their names. Plain laws of chapter 7: what the program's office does. Plain laws of chapter 7: each event in the program's office. Plain laws of chapter 7: the program's office does what the office by names does. Plain laws of chapter 7: the examples. Plain laws of chapter 7: what the statements share. No condition. -/
import Derived.Test.YtalkbgomndhkmaaGreatPZn
import Derived.Test.YtalkbgomndhkmaaGreatGPure
import Derived.ProofKit
namespace Go.KB
set_option linter.unusedVariables false
section
variable {N:Nat} {p:GPermitPlan} {A:AO} {g:af} {st:List (Str×ah)} {O7:List (Str×ak)} {pe:List (Str×Str)} (hp:LV p) (ho:Us p) (hN:1000000≤N) (h:RelA p A g st O7 pe) (b:BdA A)
include hp hN h
end
end Go.KB
namespace Go.KB
set_option linter.unusedVariables false
end Go.KB
namespace Go.KB
set_option linter.unusedVariables false
section
variable {N:Nat} {p:GPermitPlan} {A:AO} {g:af} {st:List (Str×ah)} {O7:List (Str×ak)} {pe:List (Str×Str)} (hp:LV p) (ho:Us p) (hN:1000000≤N) (h:RelA p A g st O7 pe) (b:BdA A) (hpp:A.pp.Pairwise (fun a b=>a.1<b.1))
include hp hN h
include b hpp
include ho
end
end Go.KB
namespace Go.KB
set_option linter.unusedVariables false
section
variable {N:Nat} {p:GPermitPlan} {A:AO} {g:af} {st:List (Str×ah)} {O7:List (Str×ak)} {pe:List (Str×Str)} (hp:LV p) (ho:Us p) (hN:1000000≤N) (h:RelA p A g st O7 pe) (b:BdA A) (hpp:A.pp.Pairwise (fun a b=>a.1<b.1))
include hN h
include hp b hpp ho
omit ho hpp b
include hpp
omit hpp
include ho
end
end Go.KB
namespace Go.KB
set_option linter.unusedVariables false
instance:Inhabited bg:=⟨⟨[],[],[],none⟩⟩
section
variable {N:Nat} {p:GPermitPlan} {A:AO} {g:af} {st:List (Str×ah)} {O7:List (Str×ak)} {pe:List (Str×Str)} (hp:LV p) (ho:Us p) (hN:1000000≤N) (h:RelA p A g st O7 pe) (b:BdA A) (hpp:A.pp.Pairwise (fun a b=>a.1<b.1))
include hp hN h b hpp ho
end
end Go.KB
namespace Go.KB
set_option maxRecDepth 100000
theorem zS:uI (2 ^ 70)=some true:=by kernel_rfl
end Go.KB
namespace Go.KB
set_option linter.unusedVariables false
theorem Xu {N:Nat} (p:GPermitPlan) (hN:1000000≤N):wJ N p=some false∨(wJ N p=some true∧LV p∧lC p=0∧p.bU.length≤8∧p.ay.length≤8∧p.cZ.length≤12):=by
 unfold wJ
 rcases Uj p hN with hg | ⟨hg,hp,_⟩
 ·rw [hg];exact .inl rfl
 ·rw [hg,bS,Bool.not_false,vC,JD hp hN,bS,Bool.true_and]
  simp only [Ar,LK]
  by_cases h:lC p=0∧p.bU.length≤8∧p.ay.length≤8∧p.cZ.length≤12
  ·refine .inr ⟨?_,hp,h⟩
   rw [dT h.1,dT (by omega),dT (by omega),dT (by omega)];rfl
  ·refine .inl ?_
   congr 1
   rw [Bool.eq_false_iff]
   intro hx
   simp only [Bool.and_eq_true,decide_eq_true_eq] at hx
   exact h (by omega)
section
variable {N:Nat} {p:GPermitPlan} {A:AO} {g:af} {st:List (Str×ah)} {O7:List (Str×ak)} {pe:List (Str×Str)}
end
end Go.KB
