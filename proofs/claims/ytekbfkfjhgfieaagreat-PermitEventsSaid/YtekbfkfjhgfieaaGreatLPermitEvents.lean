/- The plain law of PermitEvents. No condition. -/
import Derived.Test.YtekbfkfjhgfieaaGreatPZq
namespace Go.KB
set_option linter.unusedVariables false
theorem law_PermitEvents (x0:GPermitPlan) (x1:List GEvent) (h0:x0.ok) (h1:gL GEvent.ok x1):uV (2 ^ 70) x0 x1=some true:=by
  have hN:1000000≤2 ^ 70:=by decide
  have hN2:(2:Nat) ^ 70=1180591620717411303424:=by decide
  unfold uV
  rcases Yw x0 hN with hg | ⟨hg,hp,_⟩
  · rw [hg,bS,Bool.true_or,cond_true,FU];rfl
  rw [hg,bS,Bool.false_or,sG]
  by_cases hl:(40:Int)<x1.length
  · rw [dT hl,cond_true,FU];rfl
  rw [dF hl,cond_false]
  by_cases hc:wW x0=0
  · have ho:=okP hc
    obtain ⟨st,hn,hr⟩:=ZU hp hc hN
    rw [hn,bS]
    simp only [KD]
    rw [IU hp hN,bS,hc,uK,dT rfl,ZV hp ho hN]
    simp only [Bool.not_true,Bool.or_self,cond_false,bS]
    have key:∃ o,dU (oC (2 ^ 70) x1) (2 ^ 70) (toR x0 (Oa x0),0,(⟨x0,0,[]⟩:ai),st,[],[])=some o∧∃ y,o=Sum.inl y:=by
      refine G5 (n:=x1.length) (fun i s=>s.2.1=(i:Int)∧∃ A,s.1=toR x0 A∧UG x0 A∧Wy x0 i A s.2.2.1 s.2.2.2.1 s.2.2.2.2.1 s.2.2.2.2.2) (fun o=>∃ y,o=Sum.inl y) ⟨rfl,Oa x0,rfl,(fun q hq=>by cases hq),hr⟩ (fun i s hi hs=>?_) (fun s hs=>?_) (by omega)
      · obtain ⟨R,s1,g,st,qP,pe⟩:=s
        obtain ⟨e1,A,e2,ps,hr⟩:=hs
        simp only [] at e1 e2 hr
        subst e1
        subst e2
        obtain ⟨g',st',Jh,UH,hd,hr'⟩:=run_do hp ho hN hr (by omega) x1[i]
        have hlen:=hr.len
        obtain ⟨hrd,hnl⟩:=rDo_eq hp ho hN hr.inv ps (by omega) x1[i]
        refine ⟨(toR x0 (LG x0 A x1[i]).1,((i+1:Nat):Int),g',st',Jh,UH),?_,rfl,(LG x0 A x1[i]).1,rfl,do_ps ps,hr'⟩
        unfold oC
        simp only []
        rw [bQ,dT (by omega),cond_true,ji hi,bS,hd,bS,bS,hrd,bS]
        simp only [uK,decide_true,Bool.not_true,Bool.not_false,cond_true,Bool.false_or,UI hnl hN,bS,Now_eq hr'.rel]
        rw [show decide ((LG x0 A x1[i]).1.now=(toR x0 (LG x0 A x1[i]).1).Now)=true from dT rfl,qw (by omega)];rfl
      · obtain ⟨R,s1,g,st,qP,pe⟩:=s
        obtain ⟨e1,A,e2,ps,hr⟩:=hs
        simp only [] at e1
        subst e1
        refine ⟨.inl (g,st,qP,pe),?_,(g,st,qP,pe),rfl⟩
        unfold oC
        simp only []
        rw [bQ,dF (by omega),cond_false]
    obtain ⟨o,ho1,y,rfl⟩:=key
    rw [ho1,bS]
    simp only [Sum.elim_inl]
    rw [FU];rfl
  · rw [ZW hp hc hN,bS]
    simp only [KD]
    rw [IU hp hN,bS,uK,dF hc,jr,dT rfl,FU];rfl
end Go.KB
