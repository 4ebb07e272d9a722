/- Plain laws of chapter 7: what stays true in an office. Plain laws of chapter 7: the program's office settles. Plain laws of chapter 7: which permits exclude each other; the new office. No condition. -/
import Derived.Test.YtalkbgomndhkmaaGreatPZm
namespace Go.KB
set_option linter.unusedVariables false
structure WA (p:GPermitPlan) (d:List bQ) (A:AO):Prop where
 st:∀ s,0≤stA A s∧stA A s≤6
 fr:∀ x ∈ p.ay,stA A x.Name=2→x.From≤A.now
 ex:∀ x ∈ p.ay,∀ y ∈ p.ay,stA A x.Name=2→stA A y.Name=2→wE p x y=false
 tm:0≤A.now∧A.now≤1000000
 to:∀ x ∈ p.ay,(A.es x.Name).OH=x.To∨∃ v ∈ d,v.Op=11∧v.Name=x.Name∧v.To=(A.es x.Name).OH
 pp:A.pp.Pairwise (fun a b=>a.1<b.1)
 tt:∀ s t,A.ts s=some t→0≤t.at_∧t.at_≤1000000
 pl:A.pp.length≤d.length
theorem WA.le {p:GPermitPlan} {d:List bQ} {A A':AO} (h:WA p d A) (hs:∀ s,stA A' s=stA A s∨(0≤stA A' s∧stA A' s≤6∧stA A' s≠2)) (ht:∀ s,(A'.es s).OH=(A.es s).OH) (hn:A.now≤A'.now∧A'.now≤1000000) (hp:A'.pp.Pairwise (fun a b=>a.1<b.1)) (hq:∀ s t,A'.ts s=some t→A.ts s=some t∨(0≤t.at_∧t.at_≤1000000)) (hl:A'.pp.length≤d.length):WA p d A':=by
 have h2:∀ s,stA A' s=2→stA A s=2:=fun s e=>by
  rcases hs s with h1 | h1
  ·rw [← h1];exact e
  ·exact absurd e h1.2.2
 have htm:=h.tm
 refine ⟨fun s=>?_,fun x hx e=>?_,fun x hx y hy e f=>h.ex x hx y hy (h2 _ e) (h2 _ f),⟨by omega,hn.2⟩,fun x hx=>?_,hp,fun s t e=>(hq s t e).elim (h.tt s t) id,hl⟩
 ·rcases hs s with h1 | h1
  ·rw [h1];exact h.st s
  ·exact ⟨h1.1,h1.2.1⟩
 ·have:=h.fr x hx (h2 _ e);omega
 ·rw [ht];exact h.to x hx
theorem WA.mono {p:GPermitPlan} {d d':List bQ} {A:AO} (h:WA p d A) (hd:∀ v ∈ d,v ∈ d') (hl:d.length≤d'.length):WA p d' A :=
 ⟨h.st,h.fr,h.ex,h.tm,fun x hx=>(h.to x hx).imp id fun ⟨v,hv,e⟩=>⟨v,hd v hv,e⟩,h.pp,h.tt,by have:=h.pl;omega⟩
theorem WA.snoc {p:GPermitPlan} {d:List bQ} {A:AO} {x:bQ} (h:WA p d A):WA p (d ++ [x]) A:=h.mono (fun v hv=>List.mem_append_left _ hv) (by simp)
end Go.KB
namespace Go.KB
set_option linter.unusedVariables false
theorem KT {α β:Type} [DecidableEq α] (x k:α) (y:β):∀ m:List (α×β),nO (ql m x y) k=(decide (k=x)||nO m k)
 | []=>by simp [nO,ql]
 | q :: r=>by
  unfold ql
  by_cases h:x=q.1
  ·rw [dT h,qZ];unfold nO;rw [← h];cases decide (k=x) <;> simp
  ·rw [dF h,qg];unfold nO;rw [KT x k y r]
   cases decide (k=q.1) <;> cases decide (k=x) <;> rfl
structure XZ (p:GPermitPlan) (es:Str→ah) (st:List (Str×ah)):Prop where
 get:∀ s,Ep p s=true→gQ (⟨0,[],0⟩:ah) st s=es s
 has:∀ s,nO st s=Ep p s
theorem XZ.set {p:GPermitPlan} {es:Str→ah} {st:List (Str×ah)} (h:XZ p es st) {n:Str} (hn:Ep p n=true) (e:ah):XZ p (fun s=>bif decide (s=n) then e else es s) (ql st n e):=by
 refine ⟨fun s hs=>?_,fun s=>?_⟩
 ·rw [H6]
  by_cases he:s=n
  ·rw [if_pos he,dT he];rfl
  ·rw [if_neg he,dF he];exact h.get s hs
 ·rw [KT,h.has]
  by_cases he:s=n
  ·rw [dT he,he,hn];rfl
  ·rw [dF he];rfl
theorem XZ.congr {p:GPermitPlan} {es es':Str→ah} {st:List (Str×ah)} (h:XZ p es st) (he:∀ s,Ep p s=true→es s=es' s):XZ p es' st:=⟨fun s hs=>by rw [h.get s hs,he s hs],h.has⟩
structure RelB (p:GPermitPlan) (A:AO) (g:af) (Qb:List (Str×ak)):Prop where
 plan:g.plan=p
 now:g.now=A.now
 hair:∀ s,nO Qb s=(A.ts s).isSome
 airg:∀ s t,A.ts s=some t→gQ (⟨0,0,0⟩:ak) Qb s=t
structure RelA (p:GPermitPlan) (A:AO) (g:af) (st:List (Str×ah)) (Qb:List (Str×ak)) (pe:List (Str×Str)):Prop where
 b:RelB p A g Qb
 st:XZ p A.es st
 pe:pe.Perm A.pp
 done:g.done=A.done
structure BdA (A:AO):Prop where
 tm:0≤A.now∧A.now≤1000000
 st:∀ s,0≤stA A s∧stA A s≤6
 tt:∀ s t,A.ts s=some t→0≤t.at_∧t.at_≤1000000
 pl:A.pp.length<1000000
section
variable {N:Nat} {p:GPermitPlan} {A:AO} {g:af} {st:List (Str×ah)} {Qb:List (Str×ak)} {pe:List (Str×Str)} (hp:J4 p) (hN:1000000≤N) (h:RelB p A g Qb) (b:BdA A)
include hp hN h b
end
end Go.KB
namespace Go.KB
set_option linter.unusedVariables false
theorem Sl {N:Nat} {l:List bG} {f:bG→Option Bool} {g:bG→Bool} (hf:∀ y,f y=some (g y)) (hl:l.length<1000000) (hN:1000000≤N):fO N l f=some (Ik g l):=by
 unfold fO
 refine wC (fun i hi=>?_) ?_ (by omega)
 ·unfold fE
  rw [bP,dT (by omega),qZ,iZ hi,bS,hf,bS,pI (by omega)]
 ·unfold fE
  rw [bP,dF (by omega),qg]
theorem MI {α:Type} {g:α→Bool} {l:List α}:aJ .geq (Ik g l) 0=l.any g:=by
 have:=DL (g:=g) (l:=l)
 rw [Bz]
 cases h2:l.any g with
 | true=>rw [h2] at this;simp at this;rw [dT (by omega)]
 | false=>rw [h2] at this;simp at this;rw [dF (by omega)]
theorem OA {N:Nat} {p:GPermitPlan} {x y:aF} (hp:J4 p) (hN:1000000≤N):pR N p x y=some (wE p x y):=by
 have hx:=hp.x
 unfold pR wE
 rw [uH,VL hp hN]
 cases decide (x.Name=y.Name) with
 | true=>rfl
 | false =>
  rw [qg,qg,bS]
  unfold gZ
  rw [Sl (g:=fun e=>XW e (GH p x.Space y.Space) x.Kind y.Kind) (fun e=>by unfold qm XW;simp only [DJ,uU]) (by omega) hN,bS,MI];rfl
end Go.KB
