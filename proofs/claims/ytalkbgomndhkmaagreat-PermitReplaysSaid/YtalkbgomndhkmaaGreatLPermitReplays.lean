/- The plain law of PermitReplays. No condition. -/
import Derived.Test.YtalkbgomndhkmaaGreatPZq
namespace Go.KB
set_option linter.unusedVariables false
theorem XT {N:Nat} {p:GPermitPlan} {A:AO} {g:af} {st:List (Str×ah)} {pK:List (Str×au)} {pe:List (Str×Str)} (h:RelA p A g st pK pe) (hl:A.done.length<1000000):qG N g st pK pe=some A.done:=by
  have hlim:lim ≥ 10000000:=by decide
  unfold qG jY
  rw [h.done,Ah (by simp only [List.length_nil];omega)];rfl
theorem ZG {N:Nat} {p:GPermitPlan} {A:AO} (hp:EP p) (hN:1000000≤N):uJ N (toR p A)=some (nC p A fun _=>true):=by
  have hm:=hp.m
  have hlim:lim ≥ 10000000:=by decide
  unfold uJ
  rw [CP (f:=pY N (toR p A)) p.aj [] (fun y=>decide (stA A y.Name=2)&&true) (fun y=>y.Name) (fun a i=>(a,i)) (fun a=>a) (fun j hj acc hacc=>?_) (fun acc=>?_) (by omega)]
  · rfl
  · simp only [List.length_nil] at hacc
    unfold pY
    simp only []
    show (bif (aF .lss (j:Int) (List.length (sO p (stA A)):Int)) then ((idx (sO p (stA A)) (j:Int)).bind fun v2=>bif (aF .eql v2 2) then ((idx p.aj (j:Int)).bind fun v3=>(app acc [v3.Name]).bind fun v4=>some (Sum.inl (v4,(IntKind.i64.wrap ((j:Int)+1))))) else some (Sum.inl (acc,(IntKind.i64.wrap ((j:Int)+1))))) else _)=_
    rw [sU,bW,dT (by omega),lQ,Bv hj,bS,zL hj,bS,qx (by omega),iW,← CB hj,Bool.and_true]
    cases decide (stA A p.aj[j]!.Name=2) with
    | false=>rfl
    | true=>simp only [lQ];rw [Ah (by simp only [List.length_singleton];omega)];rfl
  · unfold pY
    simp only []
    show (bif (aF .lss (p.aj.length:Int) (List.length (sO p (stA A)):Int)) then _ else _)=_
    rw [sU,bW,dF (by omega),lT]
theorem jQy (x:GEvent):GEvent.eqb x x=true:=by simp [GEvent.eqb]
theorem ZH {N:Nat} {p:GPermitPlan} (hp:EP p) (ho:Ee p) (hN:1000000≤N) {l:List GEvent} (hl:l.length<1000):∀ (d i:Nat) (A:AO) (k M:Nat),i+d=l.length→d<M→k≤i→Sl p A→VR p A→A.done.length≤i →
    dU (ig N l) M (toR p A,(k:Int),0,(i:Int))=some (toR p (tX p A (l.drop i)).1,((k+(tX p A (l.drop i)).2.1:Nat):Int),(tX p A (l.drop i)).2.2):=by
  intro d
  induction d with
  | zero =>
    intro i A k M hi hM hk h ps hd
    obtain ⟨M,rfl⟩:∃ m,M=m+1:=⟨M - 1,by omega⟩
    rw [List.drop_of_length_le (by omega)]
    have e:ig N l (toR p A,(k:Int),0,(i:Int))=some (.inr (toR p A,(k:Int),0)):=by
      unfold ig
      simp only []
      rw [bW,dF (by omega),Bool.false_and,lT]
    rw [dU,e];rfl
  | succ d ih =>
    intro i A k M hi hM hk h ps hd
    obtain ⟨M,rfl⟩:∃ m,M=m+1:=⟨M - 1,by omega⟩
    have hlt:i<l.length:=by omega
    obtain ⟨hrd,_⟩:=rDo_eq hp ho hN h ps (by omega) l[i]
    rw [List.drop_eq_getElem_cons hlt]
    by_cases h0:(CQ p A l[i]).2.2=0
    · have e:ig N l (toR p A,(k:Int),0,(i:Int))=some (.inl (toR p (CQ p A l[i]).1,((k+1:Nat):Int),0,((i+1:Nat):Int))):=by
        unfold ig
        simp only []
        rw [bW,dT (by omega),iW,dT rfl,Bool.and_true,lQ,jd hlt,bS,hrd,bS]
        simp only []
        rw [h0,iW,dT rfl,lQ,qx (by omega),qx (by omega)]
      rw [dU,e,Pm h0]
      have:=ih (i+1) (CQ p A l[i]).1 (k+1) M (by omega) (by omega) (by omega) (ZI ho h).1 (do_ps ps) (Nat.le_trans (do_done ho) (by omega))
      simp only []
      rw [this]
      rw [show k+1+(tX p (CQ p A l[i]).1 (List.drop (i+1) l)).2.1=k+((tX p (CQ p A l[i]).1 (List.drop (i+1) l)).2.1+1) by omega]
    · have e:ig N l (toR p A,(k:Int),0,(i:Int))=some (.inl (toR p A,(k:Int),(CQ p A l[i]).2.2,((i+1:Nat):Int))):=by
        unfold ig
        simp only []
        rw [bW,dT (by omega),iW,dT rfl,Bool.and_true,lQ,jd hlt,bS,hrd,bS]
        simp only []
        rw [iW,dF h0,lT,qx (by omega)]
      obtain ⟨M,rfl⟩:∃ m,M=m+1:=⟨M - 1,by omega⟩
      have e2:ig N l (toR p A,(k:Int),(CQ p A l[i]).2.2,((i+1:Nat):Int))=some (.inr (toR p A,(k:Int),(CQ p A l[i]).2.2)):=by
        unfold ig
        simp only []
        rw [iW,dF h0,Bool.and_false,lT]
      rw [dU,e,Pn h0]
      show dU (ig N l) (M+1) _=_
      rw [dU,e2];rfl
theorem law_PermitReplays (x0:GPermitPlan) (x1:List GEvent) (h0:x0.ok) (h1:gL GEvent.ok x1):vN (2 ^ 70) x0 x1=some true:=by
  have hN:1000000≤2 ^ 70:=by decide
  have hN2:(2:Nat) ^ 70=1180591620717411303424:=by decide
  unfold vN
  rcases ZJ x0 hN with hg | ⟨hg,hp,_⟩
  · rw [hg,bS,Bool.true_or,lQ,HY];rfl
  rw [hg,bS,Bool.false_or,uf]
  by_cases hl:(40:Int)<x1.length
  · rw [dT hl,lQ,HY];rfl
  rw [dF hl,lT]
  by_cases hc:uG x0=0
  · have ho:=okP hc
    obtain ⟨g,st,pK,pe,hr,he⟩:=XU hp hc hN (l:=x1) (by omega)
    obtain ⟨st0,_,hr0⟩:=Xc hp hc hN
    have hq:=ZH hp ho hN (l:=x1) (by omega) x1.length 0 (FQ x0) 0 (2 ^ 70) (by omega) (by omega) (Nat.le_refl _) hr0.inv (fun q hq=>by cases hq) (Nat.le_refl _)
    rw [List.drop_zero,Nat.zero_add] at hq
    obtain ⟨d1,d2,_⟩:=Pq (p:=x0) (r:=x1) (A:=FQ x0)
    have d2:(tX x0 (FQ x0) x1).1.done=x1.take (tX x0 (FQ x0) x1).2.1:=d2
    generalize tX x0 (FQ x0) x1=q at *
    obtain ⟨A,n,e⟩:=q
    simp only [] at hr he hq d1 d2
    have hdl:A.done.length=n:=by rw [d2,List.length_take];omega
    have hlen:(nC x0 A fun _=>true).length≤x0.aj.length:=Pv
    have hpm:=hp.m
    rw [he,bS]
    simp only [Cc]
    rw [JR hp hN,bS,hc,qN,dT rfl,Bool.not_true,lT,jQu hp ho hN,bS]
    have hq':dU (ig (2 ^ 70) x1) (2 ^ 70) (toR x0 (FQ x0),0,0,0)=some (toR x0 A,(n:Int),e):=hq
    rw [hq',bS,XT hr.rel (by omega),bS]
    simp only []
    rw [qN,dT rfl,qN,dT rfl,qN,dT (by omega)]
    simp only [Bool.not_true,Bool.or_self,Bool.not_false,lQ]
    rw [Now_eq hr.rel,bS,qN,show decide (A.now=(toR x0 A).Now)=true from dT rfl]
    simp only [Bool.not_true,Bool.or_self,Bool.not_false,lQ]
    rw [jQg hp hN hr.rel,bS,ZG hp hN,bS,VS (by omega) hN,bS]
    simp only [Bool.not_true,Bool.or_self,lT]
    have h5:dU (oH (2 ^ 70) x1 (toR x0 A,(n:Int),e) A.done) (2 ^ 70) 0=some (bif (List.range n).all (fun _=>true) then Sum.inl () else Sum.inr false):=by
      refine XV (fun k hk=>?_) ?_ (by omega)
      · unfold oH
        have hk1:k<A.done.length:=by omega
        have hk2:k<x1.length:=by omega
        have hk3:A.done[k]=x1[k]:=by simp only [d2,List.getElem_take]
        simp only []
        rw [bW,dT (by omega),lQ,jd hk1,bS,jd hk2,bS,hk3,jQy,qx (by omega)];rfl
      · unfold oH
        simp only []
        rw [bW,dF (by omega),lT]
    rw [h5,show (List.range n).all (fun _=>true)=true by simp,lQ,bS]
    simp only [Sum.elim_inl]
    rw [HY];rfl
  · rw [VT hp hc hN,bS]
    simp only [Cc]
    rw [JR hp hN,bS,qN,dF hc,Bool.not_false,lQ,iW,dT rfl,iW,dT rfl,Bool.and_self,Bool.and_self,lQ,HY];rfl
end Go.KB
