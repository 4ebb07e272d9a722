/- The plain law of TopNestedPlates. No condition. -/
import Derived.Test.YtehmpjjbmldcnaaPZx
namespace Go.KB
set_option linter.unusedVariables false
set_option maxRecDepth 100000
/- two squares in two plates -/
def hP:List bC:=[⟨[97],2,2,false⟩,⟨[98],2,2,false⟩]
theorem WU {S:Nat} {t:af} (h:Fv hP 0 S t):2≤t.w∧2≤t.h:=by
  induction h with
  | one i hi =>
    match i,hi with
    | 0,_=>exact ⟨Int.le_refl _,Int.le_refl _⟩
    | 1,_=>exact ⟨Int.le_refl _,Int.le_refl _⟩
  | turn i hi ht =>
    match i,hi with
    | 0,_=>exact ⟨Int.le_refl _,Int.le_refl _⟩
    | 1,_=>exact ⟨Int.le_refl _,Int.le_refl _⟩
  | beside a b x y _ _ _ h1 h2=>exact ⟨by simp only [];omega,by simp only [];omega⟩
  | above a b x y _ _ _ h1 h2=>exact ⟨by simp only [];omega,by simp only [];omega⟩
theorem Zb {S:Nat} {t:af} (h:Fv hP 0 S t) (hS:S=3):4≤t.w∨4≤t.h:=by
  cases h with
  | one i hi =>
    match i,hi with
    | 0,_=>exact absurd hS (by decide)
    | 1,_=>exact absurd hS (by decide)
  | turn i hi ht =>
    match i,hi with
    | 0,_=>exact absurd hS (by decide)
    | 1,_=>exact absurd hS (by decide)
  | beside a b x y hx hy _=>have:=WU hx;have:=WU hy;left;simp only [];omega
  | above a b x y hx hy _=>have:=WU hx;have:=WU hy;right;simp only [];omega
theorem U2 {N:Nat} {q:GPlate} (hq:Qb hP [q] 0=0) (hN:2 ^ 64≤N):∃ c b,qN N hP q 0=some (c,b,0)∧(b=true↔∃ t,Fv hP 0 3 t∧t.w≤q.W∧t.h≤q.H):=by
  obtain ⟨p,st⟩:=NV hq (by decide)
  have hok:=st.ok 0 (by simp)
  have hok:FM q:=hok
  unfold FM at hok
  obtain ⟨V,v1,v2⟩:=MJ p hok.1.2 hok.2.1.2 hN
  have hF:=v2 3 (by decide)
  have hat:idx ((List.range (2 ^ hP.length)).map V) 3=some (V 3):=rfl
  unfold qN
  rw [Bo hN,hq,bS,show aB .neq (0:Int) 0=false from rfl,iT,v1,bS,show yS .i64 1 (hP.length:Int)=some 4 from rfl,bS,show IntKind.i64.wrap (4 - 1)=3 from by decide]
  unfold qj
  rw [show aB .eql (3:Int) 0=false from rfl,iT,hat,bS,lK]
  by_cases h:V 3=[]
  · rw [h]
    refine ⟨_,false,rfl,fun x=>(by cases x),?_⟩
    rintro ⟨t,t1,t2,t3⟩
    obtain ⟨x,hx,_⟩:=hF.2 t t1 t2 t3
    rw [h] at hx;cases hx
  · have h0:0<(V 3).length:=List.length_pos_iff.2 h
    have hm:=hF.1.1 _ (List.getElem_mem h0)
    obtain ⟨c,hc⟩:=wS.of p hm.1
    refine ⟨c,true,?_,fun _=>⟨_,hm⟩,fun _=>rfl⟩
    rw [dF (by omega),iT,bS,show idx (V 3) 0=some (V 3)[0] from mO (i:=0) h0,bS,hc N (by omega)];rfl
theorem TA {N:Nat} (hN:2 ^ 64≤N):xg N=some true:=by
  obtain ⟨c,b,e1,e2⟩:=U2 (q:=⟨4,2,0⟩) (by decide +kernel) hN
  obtain ⟨d,b',e3,e4⟩:=U2 (q:=⟨3,3,0⟩) (by decide +kernel) hN
  have hb:b=true:=e2.2 ⟨_,.beside 1 2 _ _ (.one 0 (by decide)) (.one 1 (by decide)) rfl,by decide,by decide⟩
  have hb':b'=false:=by
    cases h:b' with
    | false=>rfl
    | true =>
      obtain ⟨t,t1,t2,t3⟩:=e4.1 h
      have:=Zb t1 rfl
      simp only [] at t2 t3
      omega
  subst hb hb'
  unfold xg
  have e1:qN N [⟨[97],2,2,false⟩,⟨[98],2,2,false⟩] ⟨4,2,0⟩ 0=_:=e1
  have e3:qN N [⟨[97],2,2,false⟩,⟨[98],2,2,false⟩] ⟨3,3,0⟩ 0=_:=e3
  rw [e1,bS,e3];rfl
noncomputable def sumT:List dR→Nat
  | []=>0
  | s :: l=>nT s.wS+sumT l
theorem U3 {l:List dR} {s:dR} (h:s ∈ l):nT s.wS≤sumT l:=by
  induction l with
  | nil=>cases h
  | cons x l ih =>
    rcases List.mem_cons.1 h with rfl | h
    · show nT s.wS≤nT s.wS+sumT l;omega
    · have:=ih h;show nT s.wS≤nT x.wS+sumT l;omega
section
variable {l:List bC} {k:Int} {ps:List GPlate} {N:Nat} {sh:List dR}
theorem U4 (h5:l.length≤5) (hN:2 ^ 64≤N):∃ out,lZ N l ps k=some out∧(Qb l ps k=0→∀ q,Cst l k ps (2 ^ l.length - 1) q→out.2.2=0∧out.2.1≤q):=by
  by_cases h:Qb l ps k=0
  · obtain ⟨p,st⟩:=NV h h5
    rcases RF p st hN (by rw [Bo hN,h]) with ⟨e1,e2⟩ | ⟨s,q,e1,e2,e3⟩
    · exact ⟨_,e1,fun _ q hq=>absurd hq (e2 q)⟩
    · exact ⟨_,e1,fun _ q' hq=>⟨rfl,e3 q' hq⟩⟩
  · refine ⟨([], 0, Qb l ps k), ?_, fun x => absurd x h⟩
    unfold lZ
    rw [Bo hN,bS,lV,dF h];rfl
theorem Zc {x0:Glaw09_Job} {q:Int} {ys:List ah} (h:Pre x0.E8 x0.qO N x0.ou ys q) (hs:x0.ou.length≤10) (hN:2 ^ 64≤N):aX (jO N x0) N 0=some (.inl ()):=by
  refine uS x0.ou.length _ (fun _=>True) ?_ ?_ trivial N (by omega)
  · intro j hj _
    refine .inl ⟨?_,trivial⟩
    obtain ⟨i,xs,m1,m2,m3,m4⟩:=h.mem x0.ou[j]! (by rw [oU hj];exact List.getElem_mem hj)
    obtain ⟨rs,r1,r2⟩:=U5 hN m3 m4
    unfold jO
    rw [aW,dT (by omega),iP,jK hj,bS,m1,jK m2,bS,bS,r1,bS]
    simp only []
    rw [show aB .neq (0:Int) 0=false from rfl,Bool.not_false,iP,r2,bS,lY (by omega)];rfl
  · intro _
    unfold jO
    rw [aW,dF (by omega),iT]
end
theorem law_TopNestedPlates (x0:Glaw09_Job) (x1:GPlate) (h0:x0.ok) (h1:x1.ok):∃ N,qp N x0 x1=some true:=by
  refine ⟨sumT x0.ou+2 ^ 70,?_⟩
  have hlim:lim ≥ 10000000:=by decide
  have hT:∀ s ∈ x0.ou,s.wS.ok∧nT s.wS+2 ^ 64≤sumT x0.ou+2 ^ 70:=fun s hs=>by
    have:=U3 hs
    exact ⟨(h0.2.2.1.2 s hs).2.1,by omega⟩
  have hN:2 ^ 64≤sumT x0.ou+2 ^ 70:=by omega
  generalize sumT x0.ou+2 ^ 70=N at hT hN
  have hv:=TA hN
  unfold qp
  rw [hv,bS,Bool.not_true,iT,fE,fE,fE]
  by_cases hA:5<x0.rQ.length∨10<x0.qO.length∨10<x0.ou.length
  · have:(decide (5<(x0.rQ.length:Int))||decide (10<(x0.qO.length:Int))||decide (10<(x0.ou.length:Int)))=true:=by
      rcases hA with h | h | h
      · rw [dT (p:=5<(x0.rQ.length:Int)) (by omega)];rfl
      · rw [dT (p:=10<(x0.qO.length:Int)) (by omega),Bool.or_true];rfl
      · rw [dT (p:=10<(x0.ou.length:Int)) (by omega),Bool.or_true]
    rw [this];rfl
  · rw [dF (p := 5 < (x0.rQ.length : Int)) (by omega), dF (p := 10 < (x0.qO.length : Int)) (by omega), dF (p := 10 < (x0.ou.length : Int)) (by omega), Bool.or_self, Bool.or_self, Bool.not_false, iP, MK hN, bS, Bool.false_or, lV]
    have h5:x0.rQ.length≤5:=by omega
    have hs10:x0.ou.length≤10:=by omega
    by_cases hst:Qb x0.rQ x0.qO x0.E8=0
    · rw [dT hst,Bool.not_true,iT]
      obtain ⟨p,st⟩:=NV hst h5
      have h3:=st.n3
      obtain ⟨out,n1,n2⟩:=U4 (l:=x0.rQ) (ps:=x0.qO ++ [x1]) (k:=x0.E8) h5 hN
      obtain ⟨q,e,k1,k2⟩:=Zd (sh:=x0.ou) hst h5 hN hT hs10
      have a4:app ([]:List GPlate) x0.qO=some x0.qO:=qo (by simp only [List.length_nil];omega)
      have a5:app x0.qO [x1]=some (x0.qO ++ [x1]):=qo (by simp only [List.length_singleton];omega)
      rcases RF p st hN (by rw [Bo hN,hst]) with ⟨e1,e2⟩ | ⟨sh,pr,e1,e2,e3⟩
      · obtain ⟨o, o1, _⟩ := RG hst p st hN (sh := []) .nil (by simp)
        rw [e1,bS]
        simp only []
        rw [show (aB .neq (29:Int) 0&&aB .neq (29:Int) 29)=false from rfl,iT,a4,bS,a5,bS,n1,bS,show aB .eql (29:Int) 0=false from rfl,Bool.false_and,iT,bS,Bool.false_and,Bool.false_and,iT,o1,bS,Bool.false_and,iT,k1,bS]
        simp only []
        by_cases he:e=0
        · obtain ⟨_,ys,c1,c2,c3⟩:=k2 he
          obtain ⟨q',c4,_⟩:=ML p c1 c2 c3
          exact absurd c4 (e2 q')
        · rw [lV,dF he];rfl
      · obtain ⟨ys0,s1,s2,s3,_⟩:=WV (N:=N) p st hN e2
        have hsh:sh.length≤6:=by have:=pc_le (2 ^ x0.rQ.length - 1);omega
        obtain ⟨o,o1,o2⟩:=RG hst p st hN s1 hsh
        have o3:=o2 (fun i hi=>by rw [s2,WW hi])
        rw [e1,bS]
        simp only []
        rw [show (aB .neq (0:Int) 0&&aB .neq (0:Int) 29)=false from rfl,iT,a4,bS,a5,bS,n1,bS,show aB .eql (0:Int) 0=true from rfl,Bool.true_and]
        have more:∃ v7,(bif aB .lss (x0.qO.length:Int) 3 then kK N x1 else some 0)=some v7∧((aB .lss (x0.qO.length:Int) 3&&aB .eql v7 0)&&(aB .neq out.2.2 0||aB .gtr out.2.1 pr))=false:=by
          rw [aW]
          by_cases h:x0.qO.length<3
          · rw [dT (by omega), iP, Ir]
            by_cases hx:FM x1
            · have hm:=n2 (U6 hst h hx) pr e2.cst.more
              refine ⟨0,by rw [if_pos hx],?_⟩
              rw [lV,dT hm.1,fE,dF (by omega)];rfl
            · exact ⟨2,by rw [if_neg hx],rfl⟩
          · rw [dF (by omega),iT];exact ⟨0,rfl,rfl⟩
        obtain ⟨v7,v71,v72⟩:=more
        rw [v71,bS,v72,iT,o1,bS,o3,Bool.true_and,lV,dT rfl,Bool.not_true,iT,k1,bS]
        simp only []
        by_cases he:e=0
        · subst he
          obtain ⟨h6,ys,c1,c2,c3⟩:=k2 rfl
          obtain ⟨q',c4,c5⟩:=ML p c1 c2 c3
          have hq:=e3 q' c4
          obtain ⟨x,w,u1,u2,v,u3,u4⟩:=WX p st hN k1 hs10 c1 c2 c3
          rw [show aB .neq (0:Int) 0=false from rfl,iT,u1,bS]
          simp only []
          rw [show aB .neq (0:Int) 0=false from rfl,aW,dF (by omega),Bool.or_self,Bool.or_self,Bool.not_false,iP,u2,bS,iP,u3,bS,Bool.false_or,fE,dF u4,iT,Zc c1 hs10 hN];rfl
        · rw [lV,dF he];rfl
    · rw [dF hst];rfl
end Go.KB
