/- The plain law of PermitQuestions. No condition. -/
import Derived.Test.YtekbfkfjhgfieaaGreatPZq
namespace Go.KB
set_option linter.unusedVariables false
/- reasons handed out one after the other are collected -/
theorem U5 {N:Nat} {g:List bD→bD→Option (List bD×Option Nat)} (hg:∀ s r,s.length<1000→g s r=some (s ++ [r],none)):∀ (l acc:List bD),acc.length+l.length<1000→QZ (yl g 0) l (acc,none)=some (acc ++ l,none)
  | [],acc,_=>by rw [List.append_nil];rfl
  | r :: l,acc,h=>by
    have h':acc.length+l.length+1<1000:=by simp only [List.length_cons] at h;omega
    have e:yl g 0 (acc,none) r=some ((acc ++ [r],none),true):=by
      unfold yl
      simp only [hg acc r (by omega)]
    unfold QZ
    rw [e,bS]
    simp only [lW]
    rw [U5 (N:=N) hg l (acc ++ [r]) (by simp only [List.length_append,List.length_singleton];omega),List.append_assoc];rfl
theorem RG {p:GPermitPlan} {A:AO} {x:aH}:(Eh p A x).length<100:=by
  unfold Eh
  rw [List.length_append]
  have h1:(bif decide (A.now<x.From) then [(⟨2,[]⟩:bD)] else []).length≤1:=J4
  have h2:=List.length_filter_le (fun r:bD=>!r.Names.isEmpty) ([(⟨18,Fp A x⟩:bD),(⟨20,nH p A (fun y=>yA p y x)⟩:bD),(⟨21,BA p A x⟩:bD)] ++ (bif decide (x.Kind=3) then [(⟨17,vG A (fun s=>decide (lI p s x.Space≤1))⟩:bD)] else []))
  rw [List.length_append] at h2
  have h3:(bif decide (x.Kind=3) then [(⟨17,vG A (fun s=>decide (lI p s x.Space≤1))⟩:bD)] else []).length≤1:=J4
  simp only [List.length_cons,List.length_nil] at h2
  omega
def ovA (p:GPermitPlan) (A:AO):List Str:=vG A fun s=>(yN p s).dD && !tu p A s
section
variable {N:Nat} {p:GPermitPlan} {A:AO} {g:ai} {st:List (Str×ah)} {qg:List (Str×au)} {pe:List (Str×Str)} (hp:FW p) (ho:EQ p) (hN:1000000≤N) (h:RelA p A g st qg pe) (b:IL A) (hpp:A.pp.Pairwise (fun a b=>a.1<b.1))
include hp ho hN h b hpp in
theorem jJx {n:Str}:oL N g st qg pe n=some (bif l9 p n then (Eh p A (tK p n),0) else ([],6)):=by
  have hm:=hp.m
  have hlim:lim ≥ 1000000:=by decide
  unfold oL
  rw [h.b.plan,DZ (by omega) hN,bS,Hf]
  show (bif !l9 p n then _ else _)=_
  cases hh:l9 p n with
  | false=>rfl
  | true =>
    simp only [Bool.not_true,mD,lW]
    unfold pI
    rw [bS]
    show ((jL N g st qg pe (tK p n)).bind _)=_
    unfold jL iU
    rw [Qg hp ho hN h b hpp (AA hh).1,U5 (N:=N) (g:=fA N) (fun s r hs=>by
      unfold fA
      rw [A7 (by simp only [List.length_singleton];omega)];rfl) _ _ (by have:=RG (p:=p) (A:=A) (x:=tK p n);simp only [List.length_nil];omega),bS]
    rfl
include h b hpp in
theorem RH {s:Str}:ou N g st qg pe s=some (vG A fun t=>decide (t=s)):=by
  unfold ou
  rw [Qh h b hpp (φ:=fun y0=>ng N y0 s) (so:=fun t=>decide (t=s)) fun t=>by unfold ng;rw [ru]];rfl
include hp hN h in
theorem WJ {s:Str}:qy N g st qg s=some (tu p A s):=by
  have hm:=hp.m
  have ho4:qY N g st qg (fun y0=>gX N y0 s)=some (nH p A (fun y=>decide (y.Kind=1)&&decide (y.Space=s))):=by
    unfold qY
    rw [Hg (f:=nY N g st qg (fun y0=>gX N y0 s)) (A:=A) (so:=fun y=>decide (y.Kind=1)&&decide (y.Space=s)) hp hN (fun i hi acc hacc=>?_) (fun acc=>?_)]
    · rfl
    · unfold nY
      simp only []
      have his:uZ N g st qg p.ak[i].Name [2]=some (([2]:List Int).contains (stA A p.ak[i].Name)):=JA (g:=g) (qg:=qg) (pe:=pe) hN h.st (Iy hi) (by decide)
      rw [h.b.plan,bU,dT (by omega),lW,jK hi,bS,his,bS,qX (by omega)]
      have hc:([2]:List Int).contains (stA A p.ak[i].Name)=decide (stA A p.ak[i].Name=2):=by rw [Bool.eq_iff_iff];simp
      rw [hc,show gX N p.ak[i] s=some (decide (p.ak[i].Kind=1)&&decide (p.ak[i].Space=s)) from by unfold gX;rw [jS,ru]]
      cases decide (stA A p.ak[i].Name=2) <;> rfl
    · unfold nY
      simp only []
      rw [h.b.plan,bU,dF (by omega),mD]
  unfold qy tu
  rw [ho4,bS,gt0]
include hp hN h b hpp in
theorem WL:nV N g st qg pe=some (ovA p A):=by
  have hs:=hp.s
  have hlim:lim ≥ 10000000:=by decide
  have hr:jW N g st qg pe=some (ovA p A):=by
    unfold jW
    refine Qi (f:=jO N g st qg) (so:=fun s=>(yN p s).dD && !tu p A s) h.pe hpp b.pl fun acc q _ hacc=>?_
    unfold jO qP
    rw [h.b.plan,AB (by omega) hN,bS,WJ hp hN h]
    show (((bif (yN p q.2).dD then some (tu p A q.2) else some false).bind fun v2=>some ((yN p q.2).dD && !v2)).bind fun v5=>bif v5 then ((app acc [q.1]).bind fun v6=>some v6) else (some acc))=_
    cases (yN p q.2).dD with
    | false=>rfl
    | true =>
      cases tu p A q.2 with
      | true=>rfl
      | false =>
        simp only [lW,bS,Bool.true_and,Bool.not_false]
        rw [A7 (by simp only [List.length_singleton];omega)];rfl
  unfold nV
  rw [hr];rfl
end
/- the reference's answers -/
section
variable {N:Nat} {p:GPermitPlan} {A:AO} (hp:FW p) (ho:EQ p) (hN:1000000≤N) (b:IL A)
include hp hN b in
theorem WM (ps:Tv p A) {s:Str} (hs:uY p s=true):uD N (toR p A) s=some (vG A fun t=>decide (t=s)):=by
  have hss:=hp.s
  unfold uD
  show ((jh N p s).bind fun v1=>_)=_
  rw [wF (by omega) hN,bS,bU,Tz]
  show (bif !uY p s then _ else _)=_
  rw [hs,Le hp hN b ps hs]
  simp only [near0];rfl
include hp hN in
theorem jJz:rD N (toR p A)=some (nH p A fun _=>true):=by
  have hm:=hp.m
  have hlim:lim ≥ 10000000:=by decide
  unfold rD
  rw [CQ (f:=qO N (toR p A)) p.ak [] (fun y=>decide (stA A y.Name=2)&&true) (fun y=>y.Name) (fun a i=>(a,i)) (fun a=>a) (fun j hj acc hacc=>?_) (fun acc=>?_) (by omega)]
  · rfl
  · simp only [List.length_nil] at hacc
    unfold qO
    simp only []
    show (bif (aG .lss (j:Int) (List.length (uy p (stA A)):Int)) then ((idx (uy p (stA A)) (j:Int)).bind fun v2=>bif (aG .eql v2 2) then ((idx p.ak (j:Int)).bind fun v3=>(app acc [v3.Name]).bind fun v4=>some (Sum.inl (v4,(IntKind.i64.wrap ((j:Int)+1))))) else (some (Sum.inl (acc,(IntKind.i64.wrap ((j:Int)+1)))))) else (some (Sum.inr acc)))=_
    rw [uz,bU,dT (by omega),lW,BK hj,bS,zK hj,bS,qX (by omega),jS,← DC hj,Bool.and_true]
    cases decide (stA A p.ak[j]!.Name=2) with
    | false=>rfl
    | true=>simp only [lW];rw [A7 (by simp only [List.length_singleton];omega)];rfl
  · unfold qO
    simp only []
    show (bif (aG .lss (p.ak.length:Int) (List.length (uy p (stA A)):Int)) then _ else _)=_
    rw [uz,bU,dF (by omega),mD]
include hp hN b in
theorem U6 (ps:Tv p A):pV N (toR p A)=some (ovA p A):=by
  have hs:=hp.s
  have hb:=b.pl
  have hlim:lim ≥ 10000000:=by decide
  unfold pV
  rw [CQ (f:=pF N (toR p A)) A.pp [] (fun q=>(yN p q.2).dD && !tu p A q.2) (fun q=>q.1) (fun a i=>(a,i)) (fun a=>a) (fun j hj acc hacc=>?_) (fun acc=>?_) (by omega)]
  · rfl
  · simp only [List.length_nil] at hacc
    obtain ⟨k,hk,e1,e2⟩:=ixS (ps _ (List.getElem_mem hj))
    unfold pF
    simp only []
    show (bif (aG .lss (j:Int) (List.length (A.pp.map J5):Int)) then ((idx (A.pp.map J5) (j:Int)).bind fun v2=>(jh N p v2.Space).bind fun v3=>(idx p.bM v3).bind fun v4=>(bif v4.dD then (iP N (toR p A) v2.Space (-1)) else some false).bind fun v5=>bif (v4.dD&&(!v5)) then ((app acc [v2.Name]).bind fun v6=>some (Sum.inl (v6,(IntKind.i64.wrap ((j:Int)+1))))) else (some (Sum.inl (acc,(IntKind.i64.wrap ((j:Int)+1)))))) else (some (Sum.inr acc)))=_
    rw [List.length_map,bU,dT (by omega),lW,jK (by rw [List.length_map];exact hj),List.getElem_map,bS]
    show ((jh N p A.pp[j].2).bind fun v3=>(idx p.bM v3).bind fun v4=>(bif v4.dD then (iP N (toR p A) A.pp[j].2 (-1)) else some false).bind fun v5=>bif (v4.dD&&(!v5)) then ((app acc [A.pp[j].1]).bind fun v6=>some (Sum.inl (v6,(IntKind.i64.wrap ((j:Int)+1))))) else (some (Sum.inl (acc,(IntKind.i64.wrap ((j:Int)+1))))))=_
    rw [wF (by omega) hN,bS,e1,zK hk,bS,e2,Oc hp hN,qX (by omega)]
    cases (yN p A.pp[j].2).dD with
    | false=>rfl
    | true =>
      simp only [lW,bS,Bool.true_and]
      cases tu p A A.pp[j].2 with
      | true=>rfl
      | false=>simp only [Bool.not_false,lW];rw [A7 (by simp only [List.length_singleton];omega)];rfl
  · unfold pF
    simp only []
    show (bif (aG .lss (A.pp.length:Int) (List.length (A.pp.map J5):Int)) then _ else _)=_
    rw [List.length_map,bU,dF (by omega),mD]
end
theorem TA {N:Nat} {l:List bD} (hl:l.length<100) (hn:∀ r ∈ l,r.Names.length<1000000) (hN:1000000≤N):zx N l l=some true:=by
  unfold zx
  rw [wu,dT rfl,Bool.not_true,mD]
  have h:((dX (uJ N l l) N 0).bind fun o=>Sum.elim (fun _=>some true) (fun r=>some r) o)=some (l.all fun _=>true):=by
    refine Qj (fun i hi=>?_) ?_ (by omega)
    · unfold uJ
      rw [bU,dT (by omega),lW,jK hi,bS,bS,wu,dT rfl,Bool.not_true,Bool.not_false,lW,bS,bS,Iz (hn _ (List.getElem_mem hi)) hN,lW,bS,qX (by omega)];rfl
    · unfold uJ
      rw [bU,dF (by omega),mD]
  rw [h];simp
theorem law_PermitQuestions (x0:GPermitPlan) (x1:List GEvent) (x2:Str) (h0:x0.ok) (h1:gL GEvent.ok x1) (h2:gS x2):ve (2 ^ 70) x0 x1 x2=some true:=by
  have hN:1000000≤2 ^ 70:=by decide
  have hN2:(2:Nat) ^ 70=1180591620717411303424:=by decide
  unfold ve
  refine jQ5 hN Lh fun hp hc hsl hpl hxl hl=>?_
  have ho:=okP hc
  have hm:=hp.m
  obtain ⟨st,hn,hr⟩:=jQ6 hp hc hN
  rw [hn,bS]
  simp only [PN]
  rw [wu,dT rfl,jQ7 hp ho hN]
  simp only [Bool.not_true,Bool.or_self,mD,bS]
  have key:∃ o,dX (oP (2 ^ 70) x1) (2 ^ 70) (toR x0 (Qk x0),0,(⟨x0,0,[]⟩:ai),st,[],[])=some o∧∃ A,o.1=toR x0 A∧Tv x0 A∧U7 x0 x1.length A o.2.1 o.2.2.1 o.2.2.2.1 o.2.2.2.2:=by
    refine JB (n:=x1.length) (fun (i:Nat) (s:af×Int×ai×List (Str×ah)×List (Str×au)×List (Str×Str))=>s.2.1=(i:Int)∧∃ A,s.1=toR x0 A∧Tv x0 A∧U7 x0 i A s.2.2.1 s.2.2.2.1 s.2.2.2.2.1 s.2.2.2.2.2) (fun (o:af×ai×List (Str×ah)×List (Str×au)×List (Str×Str))=>∃ A,o.1=toR x0 A∧Tv x0 A∧U7 x0 x1.length A o.2.1 o.2.2.1 o.2.2.2.1 o.2.2.2.2) ⟨rfl,Qk x0,rfl,(fun q hq=>by cases hq),hr⟩ (fun i s hi hs=>?_) (fun s hs=>?_) (by omega)
    · obtain ⟨R,s1,g,st,qg,pe⟩:=s
      obtain ⟨e1,A,e2,ps,hr⟩:=hs
      simp only [] at e1 e2 hr
      subst e1
      subst e2
      obtain ⟨g',st',Lj,WN,hd,hr'⟩:=run_do hp ho hN hr (by omega) x1[i]
      have hlen:=hr.len
      obtain ⟨hrd,hnl⟩:=rDo_eq hp ho hN hr.inv ps (by omega) x1[i]
      refine ⟨(toR x0 (OX x0 A x1[i]).1,((i+1:Nat):Int),g',st',Lj,WN),?_,rfl,(OX x0 A x1[i]).1,rfl,do_ps ps,hr'⟩
      unfold oP
      simp only []
      rw [bU,dT (by omega),lW,jK hi,bS,hd,bS,bS,hrd,bS,qX (by omega)]
    · obtain ⟨R,s1,g,st,qg,pe⟩:=s
      obtain ⟨e1,A,e2,ps,hr⟩:=hs
      simp only [] at e1
      subst e1
      refine ⟨(R,g,st,qg,pe),?_,A,e2,ps,hr⟩
      unfold oP
      simp only []
      rw [bU,dF (by omega),mD]
  obtain ⟨⟨R,g,st1,qg,pe⟩,hlo,A,e2,ps,hA⟩:=key
  simp only [] at e2 hA
  subst e2
  have hlen:=hA.len
  have b:=hA.bd (by omega)
  have hpp:=hA.inv.w.pp
  have h:=hA.rel
  have hpl':=b.pl
  have hwn:∀ y ∈ x0.ak,∀ r ∈ Eh x0 A y,r.Names.length<1000000:=fun y hy=>XJ hp b (hp.l y hy)
  have hpl1:∀ so,(vG A so).length<1000000:=fun so=>Nat.lt_of_le_of_lt Ql hpl'
  rw [hlo,bS]
  simp only []
  have hl2:dX (nJ (2 ^ 70) x0 (toR x0 A,g,st1,qg,pe)) (2 ^ 70) 0=some (.inl ()):=by
    refine A8 (N:=2 ^ 70) (S:=Int) (O:=Unit ⊕ Bool) (n:=x0.ak.length) (f:=nJ (2 ^ 70) x0 (toR x0 A,g,st1,qg,pe)) (fun i=>(i:Int)) (Sum.inl ()) (fun i hi=>?_) ?_ (by omega)
    · have hx:=rC hi
      have hh:l9 x0 x0.ak[i]!.Name=true:=zL.2 ⟨_,hx,rfl⟩
      unfold nJ
      simp only []
      rw [bU,dT (by omega),lW,zK hi,bS,U8 h,bS,bS,jJx hp ho hN h b hpp,bS,hh,ho.Fq hx]
      simp only [lW]
      rw [show idx (toR x0 A).cO (i:Int)=some (stA A x0.ak[i]!.Name) from BK hi,bS,Oe hp ho hN b ps hi]
      have hw:IntKind.i64.wrap (0+0)=0:=by decide
      rw [hw]
      simp only [wu,decide_true,Bool.not_true,Bool.or_self,Bool.not_false,lW,bS,TA RG (hwn _ hx) hN]
      rw [qX (by omega)];rfl
    · unfold nJ
      rw [bU,dF (by omega),mD]
  have hl1:dX (nK (2 ^ 70) x0 (toR x0 A,g,st1,qg,pe)) (2 ^ 70) 0=some (.inl ()):=by
    refine A8 (N:=2 ^ 70) (S:=Int) (O:=Unit ⊕ Bool) (n:=x0.bM.length) (f:=nK (2 ^ 70) x0 (toR x0 A,g,st1,qg,pe)) (fun i=>(i:Int)) (Sum.inl ()) (fun i hi=>?_) ?_ (by omega)
    · have hx:=rC hi
      have hh:uY x0 x0.bM[i]!.Name=true:=Qm.2 ⟨_,hx,rfl⟩
      unfold nK
      simp only []
      rw [bU,dT (by omega),lW,zK hi,bS,XK hp hN h b,bS,hh]
      simp only [lW]
      rw [Qn ho b hi,Qn ho b hi]
      simp only [wu,decide_true,Bool.not_true,Bool.not_false,lW,mD,bS,Bool.false_or,beq_self_eq_true,RH h b hpp,WM hp hN b ps hh,Iz (hpl1 _) hN]
      rw [qX (by omega)]
    · unfold nK
      rw [bU,dF (by omega),mD]
  rw [hl2,bS]
  simp only [Sum.elim_inl]
  rw [hl1,bS]
  simp only [Sum.elim_inl]
  have hon:(nH x0 A fun _=>true).length<1000000:=Nat.lt_of_le_of_lt Qo (by omega)
  have hlt1:aG .lss (Hq (OY x2) x0.ak) 0 = !l9 x0 x2:=by rw [bU,Tz];rfl
  have hlt2:aG .lss (Hq (isS x2) x0.bM) 0 = !uY x0 x2:=by rw [bU,Tz];rfl
  have hRP:qc (2 ^ 70) x0 x2=some (Hq (OY x2) x0.ak):=Fv (by omega) hN
  have hRS:jh (2 ^ 70) x0 x2=some (Hq (isS x2) x0.bM):=wF (by omega) hN
  have hins:uY x0 x2=false→vG A (fun t=>decide (t=x2))=[]:=fun hs=>by
    unfold vG
    rw [List.map_eq_nil_iff,List.filter_eq_nil_iff]
    intro q hq he
    rw [decide_eq_true_eq] at he
    have:=ps q hq
    rw [he,hs] at this;cases this
  have hov:(ovA x0 A).length<1000000:=hpl1 _
  have hO:pU (2 ^ 70) g st1 qg pe=some (nH x0 A fun _=>true):=jQ8 hp hN h
  have hrO:rD (2 ^ 70) (toR x0 A)=some (nH x0 A fun _=>true):=jJz hp hN
  have hV:nV (2 ^ 70) g st1 qg pe=some (ovA x0 A):=WL hp hN h b hpp
  have hrV:pV (2 ^ 70) (toR x0 A)=some (ovA x0 A):=U6 hp hN b ps
  have hSt:nP (2 ^ 70) g st1 qg pe x2=some (bif l9 x0 x2 then (stA A x2,0) else (0,6)):=U8 h
  have hWh:oL (2 ^ 70) g st1 qg pe x2=some (bif l9 x0 x2 then (Eh x0 A (tK x0 x2),0) else ([],6)):=jJx hp ho hN h b hpp
  have hSf:pO (2 ^ 70) g st1 qg pe x2=some (bif uY x0 x2 then (Og x0 A x2,Oh x0 A x2,0) else (false,false,6)):=XK hp hN h b
  have hIn:ou (2 ^ 70) g st1 qg pe x2=some (vG A fun t=>decide (t=x2)):=RH h b hpp
  have hT1:qA (2 ^ 70) (nH x0 A fun _=>true) (nH x0 A fun _=>true)=some true:=Iz hon hN
  have hT2:qA (2 ^ 70) (ovA x0 A) (ovA x0 A)=some true:=Iz hov hN
  have z0:aG .neq (0:Int) 0=false:=rfl
  have z6:aG .neq (6:Int) 6=false:=rfl
  have zl:aG .neq (List.length ([]:List bD):Int) 0=false:=rfl
  have zn:aG .neq (List.length ([]:List Str):Int) 0=false:=rfl
  rw [hRP,bS,hlt1]
  have hmid:((bif !l9 x0 x2 then ((nP (2 ^ 70) g st1 qg pe x2).bind fun v50=>(oL (2 ^ 70) g st1 qg pe x2).bind fun v51=>bif ((((aG .neq v50.1 0)||(aG .neq (List.length v51.1:Int) 0))||(aG .neq v50.2 6))||(aG .neq v51.2 6)) then (some (Sum.inr false)) else (some (Sum.inl ()))) else (some (Sum.inl ()))):Option (Unit ⊕ Bool))=some (Sum.inl ()):=by
    rw [hSt,hWh]
    cases l9 x0 x2 with
    | true=>rfl
    | false =>
      simp only [Bool.not_false,lW,mD,bS,z0,z6,zl,Bool.or_self]
  rw [hmid,bS]
  simp only [Sum.elim_inl]
  rw [hRS,bS,hlt2,hSf,hIn,hO,hrO,hV,hrV]
  cases hS:uY x0 x2 with
  | true =>
    simp only [Bool.not_true,mD,bS,hT1,hT2,lW,Lh,Bool.and_self]
  | false =>
    rw [hins hS]
    simp only [Bool.not_false,mD,lW,bS,hT1,hT2,Lh,Bool.and_self,z6,zn,Bool.or_self]
end Go.KB
