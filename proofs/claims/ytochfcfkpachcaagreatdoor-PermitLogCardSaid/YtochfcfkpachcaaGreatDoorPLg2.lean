/- The accepted events by themselves, with just the fields that their deeds read, lead to the same office. No condition. -/
import Derived.Test.YtochfcfkpachcaaGreatDoorPLg1
namespace Go.KB
set_option linter.unusedVariables false
/- what an event's text tells -/
def KI (x:GEvent):GEvent :=
  if x.Op=0 then ⟨x.At,0,[],[],[],0,0,0⟩ else if x.Op=1 then ⟨x.At,1,x.Name,[],x.Person,0,0,0⟩ else if x.Op=2 then ⟨x.At,2,x.Name,[],x.Person,0,0,0⟩ else
  if x.Op=3 then ⟨x.At,3,x.Name,[],[],0,0,0⟩ else if x.Op=4 then ⟨x.At,4,x.Name,[],x.Person,0,0,0⟩ else if x.Op=5 then ⟨x.At,5,x.Name,[],[],0,0,0⟩ else
  if x.Op=6 then ⟨x.At,6,x.Name,[],[],0,0,0⟩ else if x.Op=7 then ⟨x.At,7,[],x.Space,[],x.rU,x.Mc,0⟩ else if x.Op=8 then ⟨x.At,8,[],x.Space,x.Person,0,0,0⟩ else
  if x.Op=9 then ⟨x.At,9,[],[],x.Person,0,0,0⟩ else if x.Op=10 then ⟨x.At,10,[],x.Space,[],0,0,0⟩ else ⟨x.At,11,x.Name,[],x.Person,0,0,x.To⟩
theorem Xy {n:Int} (h0:0≤n) (h1:n<12):n=0∨n=1∨n=2∨n=3∨n=4∨n=5∨n=6∨n=7∨n=8∨n=9∨n=10∨n=11:=by omega
theorem act_cl {p:GPermitPlan} {A:AO} {x:GEvent} (h0:0≤x.Op) (h1:x.Op<12):yI p A (KI x)=yI p A x∧(KI x).At=x.At∧(KI x).Op=x.Op:=by
  obtain ⟨at_,op,nm,sp,pe,ox,ga,wo⟩:=x
  simp only [] at h0 h1
  rcases Xy h0 h1 with rfl | rfl | rfl | rfl | rfl | rfl | rfl | rfl | rfl | rfl | rfl | rfl <;> exact ⟨rfl,rfl,rfl⟩
/- an event that is refused changes nothing but the time; none changes the time by itself -/
theorem QE {p:GPermitPlan} {A:AO} {x:GEvent}:((xR p A x).2.2≠0→(xR p A x).1=A)∧(xR p A x).1.now=A.now:=by
  unfold xR
  cases !iI x.Person with
  | true=>exact ⟨fun _=>rfl,rfl⟩
  | false =>
    simp only [nN]
    cases decide (x.Person=(A.es x.Name).IU) with
    | true=>exact ⟨fun _=>rfl,rfl⟩
    | false =>
      simp only [nN]
      cases Ew p A (qK p x.Name) with
      | nil=>exact ⟨fun h=>absurd rfl h,rfl⟩
      | cons r l=>exact ⟨fun _=>rfl,rfl⟩
theorem Uk {p:GPermitPlan} {A:AO} {x:GEvent} (h0:0≤x.Op) (h1:x.Op<12):((FT p A x).2.2≠0→(FT p A x).1=A)∧(FT p A x).1.now=A.now:=by
  obtain ⟨at_,op,nm,sp,pe,ox,ga,wo⟩:=x
  simp only [] at h0 h1
  rcases Xy h0 h1 with rfl | rfl | rfl | rfl | rfl | rfl | rfl | rfl | rfl | rfl | rfl | rfl
  · exact ⟨fun h=>absurd rfl h,rfl⟩
  · show ((vG A _).2.2≠0→(vG A _).1=A)∧(vG A _).1.now=_
    unfold vG;simp only [];cases !iI pe with
    | true=>exact ⟨fun _=>rfl,rfl⟩
    | false=>exact ⟨fun h=>absurd rfl h,rfl⟩
  · exact QE
  · exact ⟨fun h=>absurd rfl h,rfl⟩
  · exact QE
  · show ((x9 p A _).2.2≠0→(x9 p A _).1=A)∧(x9 p A _).1.now=_
    unfold x9
    simp only []
    generalize (decide ((qK p nm).Kind=5)&&_)=a
    generalize (decide ((qK p nm).Kind=1)&&_&&_&&_&&_)=b
    cases a with
    | true=>exact ⟨fun _=>rfl,rfl⟩
    | false=>cases b with
      | true=>exact ⟨fun _=>rfl,rfl⟩
      | false=>exact ⟨fun h=>absurd rfl h,rfl⟩
  · exact ⟨fun h=>absurd rfl h,rfl⟩
  · show ((Kw p A _).2.2≠0→(Kw p A _).1=A)∧(Kw p A _).1.now=_
    unfold Kw;simp only []
    generalize (!yg p sp)=a
    generalize (decide (ox<0)||_||_||_)=b
    cases a <;> cases b <;> first | exact ⟨fun _=>rfl,rfl⟩ | exact ⟨fun h=>absurd rfl h,rfl⟩
  · show ((Ak p A _).2.2≠0→(Ak p A _).1=A)∧(Ak p A _).1.now=_
    unfold Ak;simp only []
    generalize (!iI pe)=a
    generalize (!yg p sp)=b
    generalize xg A pe=c
    generalize ((zM p sp).fG&&_)=d
    generalize (!(nC p A _).isEmpty)=e
    cases a <;> cases b <;> cases c <;> cases d <;> cases e <;> first | exact ⟨fun _=>rfl,rfl⟩ | exact ⟨fun h=>absurd rfl h,rfl⟩
  · show ((Am A _).2.2≠0→(Am A _).1=A)∧(Am A _).1.now=_
    unfold Am;simp only []
    generalize (!iI pe)=a
    generalize (!xg A pe)=b
    cases a <;> cases b <;> first | exact ⟨fun _=>rfl,rfl⟩ | exact ⟨fun h=>absurd rfl h,rfl⟩
  · show ((Ap p A _).2.2≠0→(Ap p A _).1=A)∧(Ap p A _).1.now=_
    unfold Ap;simp only []
    generalize (!yg p sp)=a
    cases a <;> first | exact ⟨fun _=>rfl,rfl⟩ | exact ⟨fun h=>absurd rfl h,rfl⟩
  · show ((xZ A _).2.2≠0→(xZ A _).1=A)∧(xZ A _).1.now=_
    unfold xZ;simp only []
    generalize (!iI pe)=a
    generalize (decide (wo≤(A.es nm).wo)||_)=b
    cases a <;> cases b <;> first | exact ⟨fun _=>rfl,rfl⟩ | exact ⟨fun h=>absurd rfl h,rfl⟩
theorem jJl {p:GPermitPlan} {A:AO} {x:GEvent} (h0:0≤x.Op) (h1:x.Op<12):((yI p A x).2.2≠0→(yI p A x).1=A)∧(yI p A x).1.now=A.now:=by
  unfold yI
  cases Aj x.Op with
  | none=>exact Uk h0 h1
  | some l =>
    simp only []
    cases !lZ p x.Name with
    | true=>exact ⟨fun _=>rfl,rfl⟩
    | false =>
      simp only [nN]
      cases !l.contains (stA A x.Name) with
      | true=>exact ⟨fun _=>rfl,rfl⟩
      | false=>exact Uk h0 h1
/- the events that were done have no part in it -/
theorem Ul {p:GPermitPlan} {A:AO} {x:GEvent} {d:List GEvent}:xR p (wd A d) x=(wd (xR p A x).1 d,(xR p A x).2):=by
  unfold xR
  have e1:((wd A d).es x.Name).IU=(A.es x.Name).IU:=rfl
  have e2:Ew p (wd A d) (qK p x.Name)=Ew p A (qK p x.Name):=rfl
  rw [e1,e2]
  cases !iI x.Person with
  | true=>rfl
  | false =>
    simp only [nN]
    cases decide (x.Person=(A.es x.Name).IU) with
    | true=>rfl
    | false =>
      simp only [nN]
      cases Ew p A (qK p x.Name) <;> rfl
theorem WC {p:GPermitPlan} {A:AO} {x:GEvent} {d:List GEvent} (h0:0≤x.Op) (h1:x.Op<12):FT p (wd A d) x=(wd (FT p A x).1 d,(FT p A x).2):=by
  obtain ⟨at_,op,nm,sp,pe,ox,ga,wo⟩:=x
  simp only [] at h0 h1
  rcases Xy h0 h1 with rfl | rfl | rfl | rfl | rfl | rfl | rfl | rfl | rfl | rfl | rfl | rfl
  · rfl
  · show vG (wd A d) _=(wd (vG A _).1 d,(vG A _).2)
    unfold vG;simp only [];cases !iI pe <;> rfl
  · exact Ul
  · rfl
  · exact Ul
  · show x9 p (wd A d) _=(wd (x9 p A _).1 d,(x9 p A _).2)
    unfold x9
    have e1:∀ f,nC p (wd A d) f=nC p A f:=fun _=>rfl
    have e2:∀ f,yJ (wd A d) f=yJ A f:=fun _=>rfl
    have e3:∀ s,stA (wd A d) s=stA A s:=fun _=>rfl
    simp only [e1,e2,e3]
    generalize (decide ((qK p nm).Kind=5)&&_)=a
    generalize (decide ((qK p nm).Kind=1)&&_&&_&&_&&_)=b
    cases a <;> cases b <;> rfl
  · rfl
  · show Kw p (wd A d) _=(wd (Kw p A _).1 d,(Kw p A _).2)
    unfold Kw;simp only []
    generalize (!yg p sp)=a
    generalize (decide (ox<0)||_||_||_)=b
    cases a <;> cases b <;> rfl
  · show Ak p (wd A d) _=(wd (Ak p A _).1 d,(Ak p A _).2)
    unfold Ak
    have e1:∀ f,nC p (wd A d) f=nC p A f:=fun _=>rfl
    have e2:xg (wd A d) pe=xg A pe:=rfl
    have e3:vH p (wd A d) sp=vH p A sp:=rfl
    simp only [e1,e2,e3]
    generalize (!iI pe)=a
    generalize (!yg p sp)=b
    generalize xg A pe=c
    generalize ((zM p sp).fG&&_)=d
    generalize (!(nC p A _).isEmpty)=e
    cases a <;> cases b <;> cases c <;> cases d <;> cases e <;> rfl
  · show Am (wd A d) _=(wd (Am A _).1 d,(Am A _).2)
    unfold Am
    have e2:xg (wd A d) pe=xg A pe:=rfl
    simp only [e2]
    generalize (!iI pe)=a
    generalize (!xg A pe)=b
    cases a <;> cases b <;> rfl
  · show Ap p (wd A d) _=(wd (Ap p A _).1 d,(Ap p A _).2)
    unfold Ap;simp only []
    generalize (!yg p sp)=a
    cases a <;> rfl
  · show xZ (wd A d) _=(wd (xZ A _).1 d,(xZ A _).2)
    unfold xZ
    have e1:((wd A d).es nm).wo=(A.es nm).wo:=rfl
    simp only [e1]
    generalize (!iI pe)=a
    generalize (decide (wo≤(A.es nm).wo)||_)=b
    cases a <;> cases b <;> rfl
theorem act_wd {p:GPermitPlan} {A:AO} {x:GEvent} {d:List GEvent} (h0:0≤x.Op) (h1:x.Op<12):yI p (wd A d) x=(wd (yI p A x).1 d,(yI p A x).2):=by
  unfold yI
  cases Aj x.Op with
  | none=>exact WC h0 h1
  | some l =>
    have e3:stA (wd A d) x.Name=stA A x.Name:=rfl
    simp only [e3]
    cases !lZ p x.Name with
    | true=>rfl
    | false =>
      simp only [nN]
      cases !l.contains (stA A x.Name) with
      | true=>rfl
      | false=>exact WC h0 h1
/- one office that has done all events, and one that has done the accepted ones -/
structure Sim (p:GPermitPlan) (o m:AO):Prop where
  t:m.now≤o.now
  e:o=wd (Dc p m o.now) o.done
  s:Dc p m m.now=m
theorem Y4 {p:GPermitPlan} {A:AO} {x:GEvent} (h0:0≤x.Op) (h1:x.Op<12) (h2:0≤x.At) (h3:x.At≤1000000) (h4:A.now≤x.At):zL p A x=bif decide ((yI p (Dc p A x.At) x).2.2=0) then ({ ig p (yI p (Dc p A x.At) x).1 with done:=A.done ++ [x] },[],0) else yI p (Dc p A x.At) x:=by
  unfold zL
  rw [dF (show ¬ x.Op<0 by omega),dF (show ¬ 12≤x.Op by omega),dF (show ¬ x.At<0 by omega),dF (show ¬ 1000000<x.At by omega),dF (show ¬ x.At<A.now by omega)]
  rfl
theorem do_out {p:GPermitPlan} {A:AO} {x:GEvent}:((zL p A x).1=A∧(zL p A x).2.2≠0)∨(0≤x.Op∧x.Op<12∧0≤x.At∧x.At≤1000000∧A.now≤x.At):=by
  by_cases h:x.Op<0∨12≤x.Op∨x.At<0∨1000000<x.At
  · left
    unfold zL
    have:(decide (x.Op<0)||decide (12≤x.Op)||decide (x.At<0)||decide (1000000<x.At))=true:=by
      simp only [Bool.or_eq_true,decide_eq_true_eq]
      rcases h with h | h | h | h <;> simp [h]
    rw [this]
    exact ⟨rfl,by show (2:Int)≠0;decide⟩
  · by_cases h2 : x.At < A.now
    · left
      unfold zL
      rw [dF (show ¬ x.Op<0 by omega),dF (show ¬ 12≤x.Op by omega),dF (show ¬ x.At<0 by omega),dF (show ¬ 1000000<x.At by omega),dT h2]
      exact ⟨rfl,by show (10:Int)≠0;decide⟩
    · right;omega
theorem sim_do {p:GPermitPlan} (hp:H6 p) {o m:AO} (h:Sim p o m) (x:GEvent) :
    ((zL p o x).2.2≠0∧Sim p (zL p o x).1 m∧(zL p o x).1.done=o.done) ∨
    ((zL p o x).2.2=0∧0≤x.Op∧x.Op<12∧0≤x.At∧x.At≤1000000∧(zL p o x).1.done=o.done ++ [x]∧(zL p m (KI x)).2.2=0∧Sim p (zL p o x).1 (zL p m (KI x)).1∧(yI p (Dc p o x.At) x).2.2=0):=by
  rcases do_out (p:=p) (A:=o) (x:=x) with ⟨k1,k2⟩ | ⟨h0,h1,h2,h3,h4⟩
  · exact .inl ⟨k2,by rw [k1];exact h,by rw [k1]⟩
  · have ht:=h.t
    have eo:Dc p o x.At=wd (Dc p m x.At) o.done:=by
      conv=>lhs;rw [h.e]
      rw [atT_wd,Ky hp h4]
    have ea:yI p (Dc p o x.At) x=(wd (yI p (Dc p m x.At) x).1 o.done,(yI p (Dc p m x.At) x).2):=by rw [eo,act_wd h0 h1]
    obtain ⟨f1,f2⟩:=jJl (p:=p) (A:=Dc p m x.At) (x:=x) h0 h1
    obtain ⟨c1,c2,c3⟩:=act_cl (p:=p) (A:=Dc p m x.At) (x:=x) h0 h1
    have hd:=Y4 (p:=p) (A:=o) (x:=x) h0 h1 h2 h3 h4
    have hm:=Y4 (p:=p) (A:=m) (x:=KI x) (by rw [c3];exact h0) (by rw [c3];exact h1) (by rw [c2];exact h2) (by rw [c2];exact h3) (by rw [c2];omega)
    rw [c2,c1] at hm
    rw [ea] at hd
    generalize hR:yI p (Dc p m x.At) x=R at *
    obtain ⟨B,q⟩:=R
    simp only [] at hd hm f1 f2 ea
    have nB:B.now=x.At:=f2
    by_cases hq:q.2=0
    · rw [dT hq] at hd hm
      right
      rw [hd,hm,ea]
      refine ⟨rfl,h0,h1,h2,h3,rfl,rfl,⟨Int.le_refl _,?_,?_⟩,hq⟩
      · show ({ ig p (wd B o.done) with done:=o.done ++ [x] }:AO)=wd (Dc p ({ ig p B with done:=m.done ++ [KI x] }:AO) B.now) (o.done ++ [x])
        have e2:Dc p ({ ig p B with done:=m.done ++ [KI x] }:AO) B.now=wd (Dc p (Dc p B B.now) B.now) (m.done ++ [KI x]):=rfl
        rw [e2,Ky hp (Int.le_refl _)];rfl
      · show Dc p ({ ig p B with done:=m.done ++ [KI x] }:AO) B.now=_
        have e2:Dc p ({ ig p B with done:=m.done ++ [KI x] }:AO) B.now=wd (Dc p (Dc p B B.now) B.now) (m.done ++ [KI x]):=rfl
        rw [e2,Ky hp (Int.le_refl _)];rfl
    · rw [dF hq] at hd
      left
      rw [hd]
      refine ⟨hq,?_,rfl⟩
      have eB:=f1 hq
      show Sim p (wd B o.done) m
      rw [eB]
      exact ⟨by show m.now≤x.At;omega,rfl,h.s⟩
/- all events, and the accepted ones of them -/
theorem OJ {p:GPermitPlan} {x:GEvent}:∀ {l:List GEvent} {A B:AO},sH p A l=(B,l.length,0)→(zL p B x).2.2=0→sH p A (l ++ [x])=((zL p B x).1,l.length+1,0):=by
  intro l
  induction l with
  | nil =>
    intro A B h hx
    cases h
    rw [List.nil_append,Ib hx];rfl
  | cons y l ih =>
    intro A B h hx
    by_cases hy:(zL p A y).2.2=0
    · rw [Ib hy] at h
      rw [List.cons_append,Ib hy]
      have h1:sH p (zL p A y).1 l=(B,l.length,0):=by
        rcases hq:sH p (zL p A y).1 l with ⟨a,b,c⟩
        rw [hq] at h
        simp only [Prod.mk.injEq,List.length_cons] at h
        obtain ⟨rfl,h2,rfl⟩:=h
        rw [show b=l.length by omega]
      rw [ih h1 hx];rfl
    · rw [O5 hy] at h
      simp only [Prod.mk.injEq,List.length_cons] at h
      omega
theorem jJy {p:GPermitPlan} (hp:H6 p):Sim p (Eu p) (Eu p):=by
  have e:Dc p (Eu p) 0=Eu p:=by
    unfold Eu
    exact Ky hp (A:=⟨0,fun s=>bif lZ p s then ⟨0,[],(qK p s).To⟩ else ⟨0,[],0⟩,fun _=>none,[],[]⟩) (Int.le_refl 0)
  have n:(Eu p).now=0:=rfl
  refine ⟨Int.le_refl _,?_,?_⟩
  · rw [n,e];rfl
  · rw [n,e]
end Go.KB
