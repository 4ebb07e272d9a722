/- Plain laws of chapter 7: what stays true in an office. Plain laws of chapter 7: the program's office settles. Plain laws of chapter 7: which permits exclude each other; the new office. No condition. -/
import Derived.Test.YtalkbgomndhkmaaGreatPZm
namespace Go.KB
set_option linter.unusedVariables false
structure WA (p:GPermitPlan) (d:List bP) (A:AO):Prop where
 st:∀ s,0≤stA A s∧stA A s≤6
 fr:∀ x ∈ p.ay,stA A x.Name=2→x.From≤A.now
 ex:∀ x ∈ p.ay,∀ y ∈ p.ay,stA A x.Name=2→stA A y.Name=2→Aw p x y=false
 tm:0≤A.now∧A.now≤1000000
 to:∀ x ∈ p.ay,(A.es x.Name).NU=x.To∨∃ v ∈ d,v.Op=11∧v.Name=x.Name∧v.To=(A.es x.Name).NU
 pp:A.pp.Pairwise (fun a b=>a.1<b.1)
 tt:∀ s t,A.ts s=some t→0≤t.at_∧t.at_≤1000000
 pl:A.pp.length≤d.length
theorem WA.le {p:GPermitPlan} {d:List bP} {A A':AO} (h:WA p d A) (hs:∀ s,stA A' s=stA A s∨(0≤stA A' s∧stA A' s≤6∧stA A' s≠2)) (ht:∀ s,(A'.es s).NU=(A.es s).NU) (hn:A.now≤A'.now∧A'.now≤1000000) (hp:A'.pp.Pairwise (fun a b=>a.1<b.1)) (hq:∀ s t,A'.ts s=some t→A.ts s=some t∨(0≤t.at_∧t.at_≤1000000)) (hl:A'.pp.length≤d.length):WA p d A':=by
 have h2:∀ s,stA A' s=2→stA A s=2:=fun s e=>by
  rcases hs s with h1 | h1
  ·rw [← h1];exact e
  ·exact absurd e h1.2.2
 have htm:=h.tm
 refine ⟨fun s=>?_,fun x hx e=>?_,fun x hx y hy e f=>h.ex x hx y hy (h2 _ e) (h2 _ f),⟨by omega,hn.2⟩,fun x hx=>?_,hp,fun s t e=>(hq s t e).elim (h.tt s t) id,hl⟩
 ·rcases hs s with h1 | h1
  ·rw [h1];exact h.st s
  ·exact ⟨h1.1,h1.2.1⟩
 ·have:=h.fr x hx (h2 _ e);omega
 ·rw [ht];exact h.to x hx
theorem WA.mono {p:GPermitPlan} {d d':List bP} {A:AO} (h:WA p d A) (hd:∀ v ∈ d,v ∈ d') (hl:d.length≤d'.length):WA p d' A :=
 ⟨h.st,h.fr,h.ex,h.tm,fun x hx=>(h.to x hx).imp id fun ⟨v,hv,e⟩=>⟨v,hd v hv,e⟩,h.pp,h.tt,by have:=h.pl;omega⟩
theorem WA.snoc {p:GPermitPlan} {d:List bP} {A:AO} {x:bP} (h:WA p d A):WA p (d ++ [x]) A:=h.mono (fun v hv=>List.mem_append_left _ hv) (by simp)
end Go.KB
namespace Go.KB
set_option linter.unusedVariables false
theorem J9 {α β:Type} [DecidableEq α] (x k:α) (y:β):∀ m:List (α×β),nD (pK m x y) k=(decide (k=x)||nD m k)
 | []=>by simp [nD,pK]
 | q :: r=>by
  unfold pK
  by_cases h:x=q.1
  ·rw [dT h,vC];unfold nD;rw [← h];cases decide (k=x) <;> simp
  ·rw [dF h,sF];unfold nD;rw [J9 x k y r]
   cases decide (k=q.1) <;> cases decide (k=x) <;> rfl
structure Xw (p:GPermitPlan) (es:Str→ah) (st:List (Str×ah)):Prop where
 get:∀ s,zn p s=true→gB (⟨0,[],0⟩:ah) st s=es s
 has:∀ s,nD st s=zn p s
theorem Xw.set {p:GPermitPlan} {es:Str→ah} {st:List (Str×ah)} (h:Xw p es st) {n:Str} (hn:zn p n=true) (e:ah):Xw p (fun s=>bif decide (s=n) then e else es s) (pK st n e):=by
 refine ⟨fun s hs=>?_,fun s=>?_⟩
 ·rw [Gt]
  by_cases he:s=n
  ·rw [if_pos he,dT he];rfl
  ·rw [if_neg he,dF he];exact h.get s hs
 ·rw [J9,h.has]
  by_cases he:s=n
  ·rw [dT he,he,hn];rfl
  ·rw [dF he];rfl
theorem Xw.congr {p:GPermitPlan} {es es':Str→ah} {st:List (Str×ah)} (h:Xw p es st) (he:∀ s,zn p s=true→es s=es' s):Xw p es' st:=⟨fun s hs=>by rw [h.get s hs,he s hs],h.has⟩
structure RelB (p:GPermitPlan) (A:AO) (g:af) (O7:List (Str×ak)):Prop where
 plan:g.plan=p
 now:g.now=A.now
 hair:∀ s,nD O7 s=(A.ts s).isSome
 airg:∀ s t,A.ts s=some t→gB (⟨0,0,0⟩:ak) O7 s=t
structure RelA (p:GPermitPlan) (A:AO) (g:af) (st:List (Str×ah)) (O7:List (Str×ak)) (pe:List (Str×Str)):Prop where
 b:RelB p A g O7
 st:Xw p A.es st
 pe:pe.Perm A.pp
 done:g.done=A.done
structure BdA (A:AO):Prop where
 tm:0≤A.now∧A.now≤1000000
 st:∀ s,0≤stA A s∧stA A s≤6
 tt:∀ s t,A.ts s=some t→0≤t.at_∧t.at_≤1000000
 pl:A.pp.length<1000000
section
variable {N:Nat} {p:GPermitPlan} {A:AO} {g:af} {st:List (Str×ah)} {O7:List (Str×ak)} {pe:List (Str×Str)} (hp:LV p) (hN:1000000≤N) (h:RelB p A g O7) (b:BdA A)
include hp hN h b
end
end Go.KB
namespace Go.KB
set_option linter.unusedVariables false
theorem Q8 {N:Nat} {l:List bG} {f:bG→Option Bool} {g:bG→Bool} (hf:∀ y,f y=some (g y)) (hl:l.length<1000000) (hN:1000000≤N):fM N l f=some (Jl g l):=by
 unfold fM
 refine vK (fun i hi=>?_) ?_ (by omega)
 ·unfold eY
  rw [bZ,dT (by omega),vC,jw hi,bS,hf,bS,qR (by omega)]
 ·unfold eY
  rw [bZ,dF (by omega),sF]
theorem LG {α:Type} {g:α→Bool} {l:List α}:aO .geq (Jl g l) 0=l.any g:=by
 have:=CP (g:=g) (l:=l)
 rw [Au]
 cases h2:l.any g with
 | true=>rw [h2] at this;simp at this;rw [dT (by omega)]
 | false=>rw [h2] at this;simp at this;rw [dF (by omega)]
theorem NQ {N:Nat} {p:GPermitPlan} {x y:aC} (hp:LV p) (hN:1000000≤N):oZ N p x y=some (Aw p x y):=by
 have hx:=hp.x
 unfold oZ Aw
 rw [vw,Vd hp hN]
 cases decide (x.Name=y.Name) with
 | true=>rfl
 | false =>
  rw [sF,sF,bS]
  unfold gV
  rw [Q8 (g:=fun e=>exE e (Jf p x.Space y.Space) x.Kind y.Kind) (fun e=>by unfold pM exE;simp only [LK,Ar]) (by omega) hN,bS,LG];rfl
end Go.KB
