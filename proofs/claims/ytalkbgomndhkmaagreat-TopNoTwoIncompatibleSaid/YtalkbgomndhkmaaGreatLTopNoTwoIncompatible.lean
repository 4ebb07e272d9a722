/- The plain law of TopNoTwoIncompatible. No condition. -/
import Derived.Test.YtalkbgomndhkmaaGreatPZq
import Derived.ProofKit
namespace Go.KB
set_option linter.unusedVariables false
set_option maxRecDepth 100000
theorem Dv:xg (2 ^ 70)=some true:=by kernel_rfl
theorem TM {N:Nat} {p:GPermitPlan} {A:AO} {g:af} {st:List (Str×ah)} {lH:List (Str×ai)} {pe:List (Str×Str)} (h:RelA p A g st lH pe) (hl:A.done.length<1000000):kJ N g st lH pe=some A.done:=by
  have hlim:lim ≥ 10000000:=by decide
  unfold kJ iV
  rw [h.done,FN (by simp only [List.length_nil];omega)];rfl
theorem Ze {N n:Nat} {x:Int} (hn:0<n) (hl:n<1000000):∃ k:Nat,k<n∧zM N x (n:Int)=some (k:Int):=by
  have h1:x.tmod n<n:=Int.tmod_lt_of_pos x (by omega)
  have h2:-(n:Int)<x.tmod n:=by
    have:=Int.tmod_lt_of_pos (-x) (show (0:Int)<n by omega)
    rw [Int.neg_tmod] at this;omega
  unfold zM Xh
  rw [if_neg (by omega),bS,bT]
  by_cases h:x.tmod n<0
  · rw [dT h, nC, w64i (by omega) (by omega)]
    exact ⟨(x.tmod n+n).toNat,by omega,by congr 1;omega⟩
  · rw [dF h,lI]
    exact ⟨(x.tmod n).toNat,by omega,by congr 1;omega⟩
theorem Xi {a b:Str}:xM .eql a b=decide (a=b):=by
  unfold xM
  first | rfl | (by_cases h:a=b <;> simp [h])
theorem Xj {a b:Str}:xM .neq a b = !decide (a=b):=by
  unfold xM
  first | rfl | (by_cases h:a=b <;> simp [h])
theorem QI {N:Nat} {l r:List Str} {gone:Str} {j:Nat} (hj:j<r.length) (h1:r[j] ∈ l) (h2:r[j]≠gone) (hl:l.length<1000) (hN:1000000≤N):dB (jk N l gone r (j:Int)) N (false,0)=some true:=by
  have key:∃ o,dB (jk N l gone r (j:Int)) N (false,0)=some o∧o=true:=by
   refine Cb (n:=l.length) (fun i s=>s.2=(i:Int)∧((∃ k,k<i∧l[k]? = some r[j])→s.1=true)) (fun o=>o=true) ⟨rfl,fun ⟨k,hk,_⟩=>by omega⟩ (fun i s hi hs=>?_) (fun s hs=>?_) (by omega)
   · obtain ⟨b,s1⟩:=s
     obtain ⟨e1,e2⟩:=hs
     simp only [] at e1 e2
     subst e1
     unfold jk
     simp only []
     rw [bT,dT (by omega),nC]
     cases b with
     | true =>
       refine ⟨(true,((i+1:Nat):Int)),?_,rfl,fun _=>rfl⟩
       simp only [Bool.not_true,lI,bS,Bool.false_and,Bool.true_or]
       rw [qy (by omega)]
     | false =>
       simp only [Bool.not_false,nC,Bool.true_and,Bool.false_or]
       rw [iU hi,bS,iU hj,bS,Xi]
       by_cases he:l[i]=r[j]
       · refine ⟨(true, ((i + 1 : Nat) : Int)), ?_, rfl, fun _ => rfl⟩
         rw [dT he,nC,bS,Xj,he,dF h2,qy (by omega)];rfl
       · refine ⟨(false, ((i + 1 : Nat) : Int)), ?_, rfl, fun ⟨k, hk, hk2⟩ => ?_⟩
         · rw [dF he,lI,bS,qy (by omega)];rfl
         · by_cases hki : k = i
           · subst hki
             rw [List.getElem?_eq_getElem hi] at hk2
             exact absurd (Option.some.inj hk2) he
           · exact e2 ⟨k,by omega,hk2⟩
   · obtain ⟨b,s1⟩:=s
     obtain ⟨e1,e2⟩:=hs
     simp only [] at e1 e2
     subst e1
     unfold jk
     simp only []
     rw [bT,dF (by omega),lI]
     obtain ⟨k,hk,hk2⟩:=List.getElem_of_mem h1
     exact ⟨b,rfl,e2 ⟨k,hk,by rw [List.getElem?_eq_getElem hk,hk2]⟩⟩
  obtain ⟨o,ho,rfl⟩:=key
  exact ho
theorem law_TopNoTwoIncompatible (x0:GPermitPlan) (x1:List GEvent) (x2:Int) (h0:x0.ok) (h1:gL GEvent.ok x1) (h2:gI .i64 x2):oO (2 ^ 70) x0 x1 x2=some true:=by
  have hN:1000000≤2 ^ 70:=by decide
  have hN2:(2:Nat) ^ 70=1180591620717411303424:=by decide
  unfold oO AV
  rcases Zf x0 hN with hf | ⟨hf,hp,hc,hsl,hpl,hxl⟩
  · rw [hf,Dv];rfl
  rw [hf,bS,bS,Bool.not_true,Bool.false_or,tH]
  by_cases hl:(30:Int)<x1.length
  · rw [dT hl,nC,Dv];rfl
  rw [dF hl,lI]
  have ho:=okP hc
  obtain ⟨st,hn,hr⟩:=RS hp hc hN
  rw [hn,bS]
  simp only [Aa]
  rw [ru,dT rfl]
  simp only [Bool.not_true,Bool.or_self,lI]
  have key:∃ o,dB (jX (2 ^ 70) x0 x1) (2 ^ 70) (0,(⟨x0,0,[]⟩:af),st,[],[])=some o∧∃ g st lH pe A,o=Sum.inl (g,st,lH,pe)∧J4 x0 x1.length A g st lH pe∧J5 x0 A:=by
   refine Cb (n := x1.length) (fun i s => s.1 = (i : Int) ∧ ∃ A, J4 x0 i A s.2.1 s.2.2.1 s.2.2.2.1 s.2.2.2.2 ∧ J5 x0 A)
    (fun o=>∃ g st lH pe A,o=Sum.inl (g,st,lH,pe)∧J4 x0 x1.length A g st lH pe∧J5 x0 A) ⟨rfl,FO x0,hr,J5.new⟩ (fun i s hi hs=>?_) (fun s hs=>?_) (by omega)
   · obtain ⟨s1,g,st,lH,pe⟩:=s
     obtain ⟨e1,A,hr,hs⟩:=hs
     simp only [] at e1 hr
     subst e1
     obtain ⟨g',st',Ai,J6,hd,hr'⟩:=QJ hp ho hN hr (by omega) x1[i]
     have hlen:(kD x0 (wu x0 A x1[i]).1 fun _=>true).length≤x0.aB.length:=Gz
     refine ⟨(((i+1:Nat):Int),g',st',Ai,J6),?_,rfl,(wu x0 A x1[i]).1,hr',hs.step ho _⟩
     unfold jX
     simp only []
     rw [bT,dT (by omega),nC,iU hi,bS,hd,bS]
     simp only []
     rw [I9 hp hN hr'.rel,bS,Bq hp (by omega) hN,Hy hc hr'.inv,bS,ru,dT rfl,qy (by omega)];rfl
   · obtain ⟨s1,g,st,lH,pe⟩:=s
     obtain ⟨e1,A,hr,hs⟩:=hs
     simp only [] at e1 hr
     subst e1
     refine ⟨Sum.inl (g,st,lH,pe),?_,g,st,lH,pe,A,rfl,hr,hs⟩
     unfold jX
     simp only []
     rw [bT,dF (by omega),lI]
  obtain ⟨o,ho1,g,st,lH,pe,A,rfl,hr,hs⟩:=key
  rw [ho1,bS]
  simp only [Sum.elim_inl]
  have hdl:A.done.length≤x1.length:=hr.len
  rw [TM hr.rel (by omega),bS]
  obtain ⟨g2,st2,air2,pe2,hr2,he2⟩:=TN hp hc hN (l:=A.done) (by omega)
  obtain ⟨_,_,q3⟩:=J7 (p:=x0) (r:=A.done) (A:=FO x0)
  have q3:=q3 hs.2
  rw [he2,bS]
  simp only []
  rw [hs.2,ru,dT rfl]
  simp only [Bool.not_true,Bool.or_self,Bool.not_false,nC]
  rw [bS,ru,dT (by omega)]
  simp only [Bool.not_true,Bool.or_self,lI]
  have hl1:(kD x0 (qh x0 (FO x0) A.done).1 fun _=>true).length≤x0.aB.length:=Gz
  have hl2:(kD x0 A fun _=>true).length≤x0.aB.length:=Gz
  rw [I9 hp hN hr2.rel,bS,Bq hp (by omega) hN,Hy hc hr2.inv,bS,ru,dT rfl]
  simp only [Bool.not_true,Bool.or_self,lI]
  rw [I9 hp hN hr.rel,bS,qR]
  by_cases hz:(kD x0 A fun _=>true).length=0
  · rw [dT (by omega),nC,Dv];rfl
  rw [dF (by omega),lI]
  obtain ⟨k,hk,hm⟩:=Ze (N:=2 ^ 70) (x:=x2) (n:=(kD x0 A fun _=>true).length) (by omega) (by omega)
  rw [hm,bS,iU hk,bS,Zg hr.rel,bS]
  have hgm:(kD x0 A fun _=>true)[k] ∈ kD x0 A fun _=>true:=List.getElem_mem hk
  generalize (kD x0 A fun _=>true)[k]=gone at hgm
  obtain ⟨x,hx,hxn,hst,_⟩:=Cc.1 hgm
  have hhas:kH x0 gone=true:=yR.2 ⟨x,hx,hxn⟩
  obtain ⟨g3,st3,air3,pe3,hd3,hr3⟩:=QJ hp ho hN hr (by omega) (⟨A.now,3,gone,[],[],0,0,0⟩:GEvent)
  obtain ⟨hok,hno⟩:=QK hr.inv hhas hst (⟨A.now,3,gone,[],[],0,0,0⟩:GEvent) ⟨rfl,rfl,rfl⟩
  obtain ⟨_,_,_,hop⟩:=VB ho hr.inv (x:=(⟨A.now,3,gone,[],[],0,0,0⟩:GEvent))
  rw [hd3,bS]
  simp only []
  rw [hok,ru,dT rfl,Bool.not_true,lI,I9 hp hN hr3.rel,bS]
  have hl3:(kD x0 (wu x0 A (⟨A.now,3,gone,[],[],0,0,0⟩:GEvent)).1 fun _=>true).length≤x0.aB.length:=Gz
  have hsub:∀ s ∈ kD x0 (wu x0 A (⟨A.now,3,gone,[],[],0,0,0⟩:GEvent)).1 (fun _=>true),s ∈ kD x0 A (fun _=>true)∧s≠gone:=fun s hs=>by
    obtain ⟨y,hy,hyn,hys,_⟩:=Cc.1 hs
    refine ⟨Cc.2 ⟨y,hy,hyn,?_,rfl⟩,fun e=>by subst e;exact hno hys⟩
    by_cases h2:stA A s=2
    · exact h2
    · obtain ⟨h3,_⟩:=hop s hys h2
      rcases h3 with h3 | h3
      · exact absurd (show (3:Int)=2 from h3) (by decide)
      · exact absurd (show (3:Int)=4 from h3) (by decide)
  have hcomp:=Hy hc hr3.inv
  generalize kD x0 (wu x0 A (⟨A.now,3,gone,[],[],0,0,0⟩:GEvent)).1 (fun _=>true)=rest at hl3 hsub hcomp
  have h5:dB (jY (2 ^ 70) (kD x0 A fun _=>true) gone rest) (2 ^ 70) 0=some (bif rest.all (fun _=>true) then Sum.inl () else Sum.inr false):=by
    refine EO (fun j hj=>?_) ?_ (by omega)
    · unfold jY
      obtain ⟨h6,h7⟩:=hsub _ (List.getElem_mem hj)
      rw [bT,dT (by omega),nC,QI hj h6 h7 (by omega) hN,bS,qy (by omega)];rfl
    · unfold jY
      rw [bT,dF (by omega),lI]
  rw [h5,show rest.all (fun _=>true)=true by simp,nC,bS]
  simp only [Sum.elim_inl]
  rw [Bq hp (by omega) hN,hcomp,bS,qR,dT rfl]
  simp only [Bool.and_self,nC]
  rw [Dv];rfl
end Go.KB
