/- The plain law of PermitReached. No condition. -/
import Derived.Test.YtalkbgomndhkmaaGreatPZq
namespace Go.KB
set_option linter.unusedVariables false
theorem PK {N:Nat} {l:List (List Str)} {v:List Str} (hl:l.length<1000000) (hm:∀ a ∈ l,a.length<1000000) (hN:1000000≤N):bZ (jY N (l,0) v) N (false,0)=some (l.any fun a=>decide (a=v)):=by
  refine NY (fun i hi b=>?_) (fun b=>?_) (by omega)
  · unfold jY
    simp only []
    rw [bH,dT (by omega),lN,nY (by omega)]
    cases b with
    | true=>rfl
    | false=>simp only [Bool.not_false,lN];rw [ig hi,bS,Ua (hm _ (List.getElem_mem hi)) hN];rfl
  · unfold jY
    simp only []
    rw [bH,dF (by omega),lM]
theorem NZ {N:Nat} {l:List (List Str)} {v:List Str} (hl:l.length<1000000) (hv:v.length<1000000) (hm:∀ a ∈ l,a.length<1000000) (hN:1000000≤N):bZ (jZ N (l,0) v) N (false,0)=some (l.any fun a=>Ub a v):=by
  refine NY (fun i hi b=>?_) (fun b=>?_) (by omega)
  · unfold jZ
    simp only []
    rw [bH,dT (by omega),lN,nY (by omega)]
    cases b with
    | true=>rfl
    | false=>simp only [Bool.not_false,lN];rw [ig hi,bS,contains_eq (hm _ (List.getElem_mem hi)) hv hN];rfl
  · unfold jZ
    simp only []
    rw [bH,dF (by omega),lM]
theorem law_PermitReached (x0:GPermitPlan) (x1:List GEvent) (h0:x0.ok) (h1:gL GEvent.ok x1):rG (2 ^ 70) x0 x1=some true:=by
  have hN:1000000≤2 ^ 70:=by decide
  have hN2:(2:Nat) ^ 70=1180591620717411303424:=by decide
  unfold rG
  rcases ZI x0 hN with hf | ⟨hf,hp,hc,hsl,hpl,hxl⟩
  · rw [hf,Dl];rfl
  rw [hf,bS,Bool.not_true,Bool.false_or,qo,qo]
  by_cases KR:(6:Int)<x0.ax.length
  · rw [dT KR,Bool.true_or,lN,Dl];rfl
  rw [dF KR,Bool.false_or]
  by_cases hl:(30:Int)<x1.length
  · rw [dT hl,lN,Dl];rfl
  rw [dF hl,lM]
  have ho:=okP hc
  have ZJ:x0.ax.length≤10:=by omega
  obtain ⟨st,hn,hr⟩:=XR hp hc hN
  rw [N7 hp hN ZJ hc,bS,Ri hp hN ZJ hc,bS,hn,bS]
  simp only [JL]
  rw [show IntKind.i64.wrap (IntKind.i64.wrap ((0:Int)+0)+0)=0 from rfl,rJ,dT rfl]
  simp only [Bool.not_true,Bool.or_self,lM]
  have hsl:=Ko ZJ
  have hml:(Eh x0).length≤(sQ x0).length:=List.length_filter_le _ _
  have hel:∀ a ∈ sQ x0,(N8 x0 a).length<1000000:=fun a ha=>by
    have:=(Dn (yx.1 ha)).1
    unfold N8
    rw [List.length_map];omega
  have h2a:∀ a ∈ (sQ x0).map (N8 x0),a.length<1000000:=fun a ha=>by
    obtain ⟨b,hb,rfl⟩:=List.mem_map.1 ha
    exact hel b hb
  have h2b:∀ a ∈ (Eh x0).map (N8 x0),a.length<1000000:=fun a ha=>by
    obtain ⟨b,hb,rfl⟩:=List.mem_map.1 ha
    exact hel b (List.mem_filter.1 hb).1
  have ND:∀ (A:AO) (g:ah) (st:List (Str×af)) (nP:List (Str×aj)) (pe:List (Str×Str)) (i:Nat),Rj x0 i A g st nP pe →
      mD (2 ^ 70) g st nP pe=some (lI x0 A fun _=>true)∧bZ (jY (2 ^ 70) ((sQ x0).map (N8 x0),0) (lI x0 A fun _=>true)) (2 ^ 70) (false,0)=some true ∧
      bZ (jZ (2 ^ 70) ((Eh x0).map (N8 x0),0) (lI x0 A fun _=>true)) (2 ^ 70) (false,0)=some true:=fun A g st nP pe i hr=>by
    have hlen:(lI x0 A fun _=>true).length≤x0.ax.length:=Wi
    obtain ⟨a,ha,hq⟩:=XT ho hr.inv
    obtain ⟨m,hm,hs⟩:=Rk ha
    refine ⟨XU hp hN hr.rel,?_,?_⟩
    · rw [PK (by rw [List.length_map]; omega) h2a hN]
      congr 1
      rw [List.any_eq_true]
      exact ⟨_,List.mem_map.2 ⟨a,ha,rfl⟩,by rw [hq,decide_eq_true_eq]⟩
    · rw [NZ (by rw [List.length_map]; omega) (by omega) h2b hN]
      congr 1
      rw [List.any_eq_true]
      exact ⟨_,List.mem_map.2 ⟨m,hm,rfl⟩,by rw [← hq];exact hs⟩
  have key:∃ o,bZ (lC (2 ^ 70) x1 ((sQ x0).map (N8 x0),0) ((Eh x0).map (N8 x0),0)) (2 ^ 70) (0,(⟨x0,0,[]⟩:ah),st,[],[])=some o∧∃ y,o=Sum.inl y:=by
    refine Ei (n:=x1.length+1) (fun i s=>s.1=(i:Int)∧∃ A,Rj x0 (i - 1) A s.2.1 s.2.2.1 s.2.2.2.1 s.2.2.2.2) (fun o=>∃ y,o=Sum.inl y) ⟨rfl,XV x0,hr⟩ (fun i s hi hs=>?_) (fun s hs=>?_) (by omega)
    · obtain ⟨s1,g,st,nP,pe⟩:=s
      obtain ⟨e1,A,hr⟩:=hs
      simp only [] at e1 hr
      subst e1
      unfold lC
      simp only []
      rw [wE,dT (by omega),lN,qo]
      cases i with
      | zero =>
        obtain ⟨a1,a2,a3⟩:=ND A g st nP pe _ hr
        refine ⟨(((0+1:Nat):Int),g,st,nP,pe),?_,rfl,A,hr⟩
        rw [dF (by omega),lM,bS]
        simp only []
        rw [a1,bS,a2,bS,a3,bS];rfl
      | succ i =>
        have hi':i<x1.length:=by omega
        obtain ⟨g',st',E8,Qi,hd,hr'⟩:=ZK hp ho hN hr (by omega) x1[i]
        obtain ⟨a1,a2,a3⟩:=ND _ g' st' E8 Qi _ hr'
        refine ⟨(((i+1+1:Nat):Int),g',st',E8,Qi),?_,rfl,(Qj x0 A x1[i]).1,hr'⟩
        rw [dT (by omega),lN,show ((i+1:Nat):Int) - 1=(i:Int) by omega,XW (by omega) (by omega),ig hi',bS,hd,bS,bS]
        simp only []
        rw [a1,bS,a2,bS,a3,bS,nY (by omega)];rfl
    · obtain ⟨s1,g,st,nP,pe⟩:=s
      obtain ⟨e1,_⟩:=hs
      simp only [] at e1
      subst e1
      refine ⟨Sum.inl (g,st,nP,pe),?_,(g,st,nP,pe),rfl⟩
      unfold lC
      simp only []
      rw [wE,dF (by omega),lM]
  obtain ⟨o,ho1,y,rfl⟩:=key
  rw [ho1,bS]
  simp only [Sum.elim_inl]
  rw [Dl];rfl
end Go.KB
