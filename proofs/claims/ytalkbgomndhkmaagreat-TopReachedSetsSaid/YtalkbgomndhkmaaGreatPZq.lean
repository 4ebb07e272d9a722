/- Plain laws of chapter 7: the open permits are a possible set. Replay: the office behind the events up to the first one that is refused. Settling twice; the office in which the events that are refused are left out. The possible sets of permits, in their order. Reachable and Maximal. The greatest sets. An office in which the time is within all permits and the air is good everywhere. No condition. -/
import Derived.Test.YtalkbgomndhkmaaGreatPZo
import Derived.Test.YtalkbgomndhkmaaGreatPZp
namespace Go.KB
set_option linter.unusedVariables false
theorem Af {e:Nat→Int}:∀ {k i:Nat},(∀ j,i≤j→j<i+k→e j=0)→dZ e k i=0:=fun {k i} h=>by
 rw [LD (e':=fun _=>0) (fun j h1 h2 _=>h j h1 h2)];exact O0
theorem XA {p:GPermitPlan} {A:AO} {so:aA→Bool} {s:Str}:s ∈ mr p A so↔∃ x ∈ p.ai,x.Name=s∧stA A s=2∧so x=true:=by
 unfold mr
 rw [List.mem_map]
 constructor
 ·rintro ⟨x,hx,rfl⟩
  obtain ⟨h1,h2⟩:=List.mem_filter.1 hx
  rw [Bool.and_eq_true,decide_eq_true_eq] at h2
  exact ⟨x,h1,rfl,h2⟩
 ·rintro ⟨x,h1,rfl,h2,h3⟩
  exact ⟨x,List.mem_filter.2 ⟨h1,by rw [h3,dT h2];rfl⟩,rfl⟩
theorem SL {p:GPermitPlan} {l:List Str} (h1:∀ s ∈ l,iU p s=true) (h2:l.Nodup):Uj p l=0:=by
 refine Af fun j _ hj=>?_
 have hj':j<l.length:=by omega
 unfold eC
 rw [wC hj',if_neg (by rw [h1 _ (List.getElem_mem hj')];simp),if_neg]
 rw [Uk]
 intro hm
 obtain ⟨i,hi,he⟩:=List.mem_take_iff_getElem.1 hm
 have h3:=(List.pairwise_iff_getElem.1 h2) i j (by omega) hj' (by omega)
 exact h3 he
theorem NP {p:GPermitPlan} {A:AO} (hi:I8 p A) {x:aA} (hx:x ∈ p.ai) (h2:stA A x.Name=2):(∀ k ∈ x.Locks,stA A k=2)∧∀ s ∈ C9 p x,Ei p A x s=true:=by
 have hb:=hi.un x hx h2
 unfold uY at hb
 rw [Bool.or_eq_false_iff,Bool.not_eq_false',Bool.not_eq_false',List.isEmpty_iff,List.isEmpty_iff] at hb
 constructor
 ·intro k hk
  have:=List.filter_eq_nil_iff.1 hb.2 k hk
  simpa using this
 ·intro s hs
  have:=List.filter_eq_nil_iff.1 hb.1 s hs
  simpa using this
end Go.KB
namespace Go.KB
set_option linter.unusedVariables false
def Ba (p:GPermitPlan):AO→List aU→AO×Nat×Int
 | A,[]=>(A,0,0)
 | A,x :: r=>bif decide ((xA p A x).2.2=0) then ((Ba p (xA p A x).1 r).1,(Ba p (xA p A x).1 r).2.1+1,(Ba p (xA p A x).1 r).2.2) else (A,0,(xA p A x).2.2)
theorem LG {p:GPermitPlan} {A:AO} {x:aU} {r:List aU} (h:(xA p A x).2.2=0):Ba p A (x :: r)=((Ba p (xA p A x).1 r).1,(Ba p (xA p A x).1 r).2.1+1,(Ba p (xA p A x).1 r).2.2):=by
 show (bif decide ((xA p A x).2.2=0) then _ else _)=_
 rw [dT h];rfl
theorem XB {p:GPermitPlan} {A:AO} {x:aU} {r:List aU} (h:(xA p A x).2.2≠0):Ba p A (x :: r)=(A,0,(xA p A x).2.2):=by
 show (bif decide ((xA p A x).2.2=0) then _ else _)=_
 rw [dF h];rfl
theorem do_acc {p:GPermitPlan} {A:AO} {x:aU} (h:(xA p A x).2.2=0):(xA p A x).1.done=A.done ++ [x]:=by
 unfold xA at h ⊢
 cases h1:(decide (x.Op<0)||decide (12≤x.Op)||decide (x.At<0)||decide (1000000<x.At)) with
 | true=>rw [h1] at h;exact absurd (show (2:Int)=0 from h) (by decide)
 | false =>
  rw [h1] at h
  rw [kC] at h ⊢
  cases h2:decide (x.At<A.now) with
  | true=>rw [h2] at h;exact absurd (show (10:Int)=0 from h) (by decide)
  | false =>
   rw [h2] at h
   rw [kC] at h ⊢
   simp only [] at h ⊢
   by_cases h3:(Bc p (dP p { A with now:=x.At }) x).2.2=0
   ·rw [dT h3];rfl
   ·rw [dF h3] at h;exact absurd h h3
end Go.KB
namespace Go.KB
set_option linter.unusedVariables false
theorem wO {t:Int} {e:af}:(e.state≤3∧e.yB≤t∧wZ t e={ e with state:=6 })∨(¬ (e.state≤3∧e.yB≤t)∧wZ t e=e):=by
 unfold wZ
 by_cases h1:e.state≤3
 ·by_cases h2 : e.yB ≤ t
  ·exact .inl ⟨h1,h2,by rw [dT h1,dT h2];rfl⟩
  ·exact .inr ⟨fun h=>h2 h.2,by rw [dT h1,dF h2];rfl⟩
 ·exact .inr ⟨fun h=>h1 h.1,by rw [dF h1];rfl⟩
theorem Va {t t':Int} (ht:t≤t') {e:af}:wZ t' (wZ t e)=wZ t' e:=by
 rcases wO (t:=t) (e:=e) with ⟨h1,h2,h3⟩ | ⟨_,h3⟩
 ·rw [h3]
  rcases wO (t:=t') (e:={ e with state:=6 }) with ⟨h4,_⟩ | ⟨_,h5⟩
  ·exact absurd (show (6:Int)≤3 from h4) (by decide)
  ·rw [h5]
   rcases wO (t:=t') (e:=e) with ⟨_,_,h6⟩ | ⟨h6,_⟩
   ·exact h6.symm
   ·exact absurd ⟨h1,by omega⟩ h6
 ·rw [h3]
theorem DX {p:GPermitPlan} {A:AO} {s:Str} (hs:iU p s=true):(qg p A).es s=wZ A.now (A.es s):=by
 show (bif iU p s then wZ A.now (A.es s) else A.es s)=_
 rw [hs];rfl
theorem ET {p:GPermitPlan} {A:AO} {s:Str}:(uO p A).es s=bif iU p s&&decide (stA A s=2)&&uY p A (nR p s) then { A.es s with state:=3 } else A.es s:=rfl
theorem QF {α:Type} {l:List α} {f g:α→Bool} (h:∀ x ∈ l,f x=true→g x=true) (hf:(l.filter f).isEmpty=false):(l.filter g).isEmpty=false:=by
 cases hg:(l.filter g).isEmpty with
 | false=>rfl
 | true =>
  rw [List.isEmpty_iff,List.filter_eq_nil_iff] at hg
  have:(l.filter f).isEmpty=true:=by
   rw [List.isEmpty_iff,List.filter_eq_nil_iff]
   exact fun x hx hfx=>hg x hx (h x hx hfx)
  rw [this] at hf;cases hf
theorem Vb {p:GPermitPlan} {A B:AO} {x:aA} {s:Str} (ht:A.ts=B.ts) (hn:A.now≤B.now) (h:Ei p B x s=true):Ei p A x s=true:=by
 have he:∀ {q:Bool},(match B.ts s with | none=>false | some t=>decide (B.now - t.at_≤p.dw)&&decide (195≤t.kz)&&decide (t.kz≤235)&&decide (t.MJ≤50))=true→(match A.ts s with | none=>false | some t=>decide (A.now - t.at_≤p.dw)&&decide (195≤t.kz)&&decide (t.kz≤235)&&decide (t.MJ≤50))=true:=by
  intro _ h
  rw [ht]
  cases hb:B.ts s with
  | none=>rw [hb] at h;exact h
  | some t =>
   rw [hb] at h
   simp only [Bool.and_eq_true,decide_eq_true_eq] at h ⊢
   omega
 have hh:(match B.ts s with | none=>false | some t=>decide (B.now - t.at_≤p.dw)&&decide (195≤t.kz)&&decide (t.kz≤235)&&decide (t.MJ≤50)&&decide (t.MJ≤10))=true→(match A.ts s with | none=>false | some t=>decide (A.now - t.at_≤p.dw)&&decide (195≤t.kz)&&decide (t.kz≤235)&&decide (t.MJ≤50)&&decide (t.MJ≤10))=true:=by
  intro h
  rw [ht]
  cases hb:B.ts s with
  | none=>rw [hb] at h;exact h
  | some t =>
   rw [hb] at h
   simp only [Bool.and_eq_true,decide_eq_true_eq] at h ⊢
   omega
 unfold Ei QG QH at h ⊢
 cases hx:decide (x.Kind=0) with
 | true =>
  rw [hx,lJ] at h
  rw [lJ]
  cases hq:(!(yA p s).dS) with
  | true=>rfl
  | false=>rw [hq,kC] at h;rw [kC];exact hh h
 | false =>
  rw [hx,kC] at h
  rw [kC]
  cases hq:(!(yA p s).dS) with
  | true=>rfl
  | false=>rw [hq,kC] at h;rw [kC];exact he (q:=true) h
theorem MW {p:GPermitPlan} (ho:FB p) {A:AO} {t t':Int} (ht:t≤t'):dP p { dP p { A with now:=t } with now:=t' }=dP p { A with now:=t' }:=by
  have hlock:∀ l,iU p l=true→(nR p l).Kind=5→(qg p { uO p (qg p { A with now:=t }) with now:=t' }).es l=(qg p { A with now:=t' }).es l:=fun l hl hk=>by
    rw [DX hl,DX hl]
    show wZ t' ((uO p (qg p { A with now:=t })).es l)=wZ t' (A.es l)
    rw [Ul ho hl hk,DX hl]
    exact Va ht
  have hbad:∀ x ∈ p.ai,uY p (qg p { uO p (qg p { A with now:=t }) with now:=t' }) x=uY p (qg p { A with now:=t' }) x:=fun x hx=>by
    have e1:BM p (qg p { uO p (qg p { A with now:=t }) with now:=t' }) x=BM p (qg p { A with now:=t' }) x:=rfl
    have e2:Dc (qg p { uO p (qg p { A with now:=t }) with now:=t' }) x=Dc (qg p { A with now:=t' }) x:=by
      unfold Dc
      refine List.filter_congr fun l hl=>?_
      obtain ⟨h1,h2,_⟩:=ho.lk x hx l hl
      unfold stA
      rw [hlock l h1 h2]
    unfold uY
    rw [e1,e2]
  have hmono:∀ x ∈ p.ai,uY p (qg p { A with now:=t }) x=true→uY p (qg p { A with now:=t' }) x=true:=fun x hx h=>by
    unfold uY at h ⊢
    rw [Bool.or_eq_true,Bool.not_eq_true',Bool.not_eq_true'] at h ⊢
    rcases h with h | h
    · refine .inl (QF (fun s _ hs => ?_) h)
      rw [Bool.not_eq_true'] at hs ⊢
      cases hg:Ei p (qg p { A with now:=t' }) x s with
      | false=>rfl
      | true=>rw [Vb (A:=qg p { A with now:=t }) (B:=qg p { A with now:=t' }) rfl ht hg] at hs;cases hs
    · refine .inr (QF (fun l hl hs => ?_) h)
      obtain ⟨h1,h2,_⟩:=ho.lk x hx l hl
      rw [Bool.not_eq_true'] at hs ⊢
      unfold stA at hs ⊢
      rw [DX h1] at hs ⊢
      have hs:decide ((wZ t (A.es l)).state=2)=false:=hs
      show decide ((wZ t' (A.es l)).state=2)=false
      rw [decide_eq_false_iff_not] at hs ⊢
      rcases wO (t:=t') (e:=A.es l) with ⟨_,_,h3⟩ | ⟨h3,h4⟩
      · rw [h3];exact (show ¬ (6:Int)=2 by decide)
      · rw [h4]
        rcases wO (t:=t) (e:=A.es l) with ⟨h5,h6,_⟩ | ⟨_,h6⟩
        · exact absurd ⟨h5,by omega⟩ h3
        · rw [h6] at hs;exact hs
  have hes:(uO p (qg p { uO p (qg p { A with now:=t }) with now:=t' })).es=(uO p (qg p { A with now:=t' })).es:=by
    funext s
    cases hs:iU p s with
    | false =>
      rw [ET,ET,hs]
      show (bif iU p s then _ else (uO p (qg p { A with now:=t })).es s)=(bif iU p s then _ else A.es s)
      rw [hs,kC,kC,ET,hs]
      show (bif iU p s then _ else A.es s)=_
      rw [hs];rfl
    | true =>
      have hx:=(nN hs).1
      have eB:(qg p { A with now:=t }).es s=wZ t (A.es s):=DX hs
      have eB':(qg p { A with now:=t' }).es s=wZ t' (A.es s):=DX hs
      have eC:(qg p { uO p (qg p { A with now:=t }) with now:=t' }).es s=wZ t' ((uO p (qg p { A with now:=t })).es s):=DX hs
      rw [ET,ET,hbad _ hx]
      unfold stA
      rw [eC,eB',ET]
      unfold stA
      rw [eB,hs]
      simp only [Bool.true_and]
      rcases wO (t:=t') (e:=A.es s) with ⟨h1,h2,h3⟩ | ⟨h1,h3⟩
      · -- it is over
        rw [h3]
        have key:wZ t' (bif decide ((wZ t (A.es s)).state=2)&&uY p (qg p { A with now:=t }) (nR p s) then { wZ t (A.es s) with state:=3 } else wZ t (A.es s))={ A.es s with state:=6 }:=by
          rcases wO (t:=t) (e:=A.es s) with ⟨_,_,h4⟩ | ⟨_,h4⟩
          · rw [h4]
            have:decide (({ A.es s with state:=6 }:af).state=2)=false:=rfl
            rw [this,Bool.false_and,kC]
            rcases wO (t:=t') (e:={ A.es s with state:=6 }) with ⟨h5,_⟩ | ⟨_,h5⟩
            · exact absurd (show (6:Int)≤3 from h5) (by decide)
            · exact h5
          · rw [h4]
            cases decide ((A.es s).state=2)&&uY p (qg p { A with now:=t }) (nR p s) with
            | false=>rw [kC];exact h3
            | true =>
              rw [lJ]
              rcases wO (t:=t') (e:={ A.es s with state:=3 }) with ⟨_,_,h5⟩ | ⟨h5,_⟩
              · exact h5
              · exact absurd ⟨(by decide:(3:Int)≤3),h2⟩ h5
        rw [key]
      · have h4:wZ t (A.es s)=A.es s:=by
          rcases wO (t:=t) (e:=A.es s) with ⟨h5,h6,_⟩ | ⟨_,h6⟩
          · exact absurd ⟨h5,by omega⟩ h1
          · exact h6
        rw [h3,h4]
        by_cases h2:(A.es s).state=2
        · rw [dT h2,Bool.true_and,Bool.true_and]
          cases hb:uY p (qg p { A with now:=t }) (nR p s) with
          | false=>rw [kC,h3,dT h2,Bool.true_and]
          | true =>
            rw [lJ,hmono _ hx hb,lJ]
            have h5:wZ t' { A.es s with state:=3 }={ A.es s with state:=3 }:=by
              rcases wO (t:=t') (e:={ A.es s with state:=3 }) with ⟨_,h6,_⟩ | ⟨_,h6⟩
              · exact absurd ⟨by omega,h6⟩ h1
              · exact h6
            rw [h5];rfl
        · rw [dF h2,Bool.false_and,kC,h3,dF h2,Bool.false_and,kC]
  show ({ uO p (qg p { uO p (qg p { A with now:=t }) with now:=t' }) with es:=(uO p (qg p { uO p (qg p { A with now:=t }) with now:=t' })).es }:AO)=_
  rw [hes];rfl
def LH (A:AO) (r:AO×List Str×Int):Prop:=r.2.2≠0→r.1=A
theorem oZ {A:AO} {e:Int} {l:List Str}:LH A (uq A e l):=fun _=>rfl
theorem wE {A B:AO}:LH A (Bd B):=fun h=>absurd rfl h
theorem pX {A:AO} {b:Bool} {r s:AO×List Str×Int} (h1:LH A r) (h2:LH A s):LH A (bif b then r else s):=by cases b <;> assumption
theorem yt {A:AO} {q:Prop} [Decidable q] {r s:AO×List Str×Int} (h1:LH A r) (h2:LH A s):LH A (if q then r else s):=by split <;> assumption
theorem NQ {p:GPermitPlan} {A:AO} {x:aU}:LH A (zH p A x):=by
 unfold zH
 refine pX oZ (pX oZ ?_)
 cases FQ p A (nR p x.Name) with
 | nil=>exact wE
 | cons r l=>exact oZ
theorem QI {p:GPermitPlan} {A:AO} {x:aU}:LH A (yH p A x):=by
 unfold yH
 refine yt wE (yt ?_ (yt NQ (yt wE (yt NQ (yt ?_ (yt wE (yt ?_ (yt ?_ (yt ?_ (yt ?_ ?_))))))))))
 ·exact pX oZ wE
 ·exact pX oZ (pX oZ wE)
 ·exact pX oZ (pX oZ wE)
 ·exact pX oZ (pX oZ (pX oZ (pX oZ (pX oZ wE))))
 ·exact pX oZ (pX oZ wE)
 ·exact pX oZ wE
 ·exact pX oZ (pX oZ wE)
theorem Y3 {p:GPermitPlan} {A:AO} {x:aU}:LH A (Bc p A x):=by
 unfold Bc
 cases BN x.Op with
 | none=>exact QI
 | some l=>exact pX oZ (pX oZ QI)
theorem XC {p:GPermitPlan} {A:AO} {x:aU} (h:(xA p A x).2.2≠0):(xA p A x).1=A∨(A.now≤x.At∧(xA p A x).1=dP p { A with now:=x.At }):=by
 unfold xA at h ⊢
 cases h1:(decide (x.Op<0)||decide (12≤x.Op)||decide (x.At<0)||decide (1000000<x.At)) with
 | true=>exact .inl rfl
 | false =>
  rw [h1] at h
  rw [kC] at h ⊢
  by_cases h2:x.At<A.now
  ·rw [dT h2];exact .inl rfl
  ·rw [dF h2] at h ⊢
   rw [kC] at h ⊢
   simp only [] at h ⊢
   by_cases h3:(Bc p (dP p { A with now:=x.At }) x).2.2=0
   ·rw [dT h3] at h;exact absurd rfl h
   ·rw [dF h3];exact .inr ⟨by omega,Y3 h3⟩
theorem QJ {p:GPermitPlan} {A:AO} {x:aU} (h:(xA p A x).2.2≠0):(xA p A x).1.done=A.done:=by
 rcases XC h with h | ⟨_,h⟩ <;> rw [h];rfl
def MX (p:GPermitPlan) (A A':AO):Prop:=A=A'∨∃ t,A'.now≤t∧A=dP p { A' with now:=t }
theorem MX.set {p:GPermitPlan} (ho:FB p) {A A':AO} (h:MX p A A') {t:Int} (ht:A.now≤t):A'.now≤t∧dP p { A with now:=t }=dP p { A' with now:=t }:=by
 rcases h with rfl | ⟨t0,h1,rfl⟩
 ·exact ⟨ht,rfl⟩
 ·have ht:t0≤t:=ht
  exact ⟨by omega,MW ho ht⟩
theorem MX.done {p:GPermitPlan} {A A':AO} (h:MX p A A'):A.done=A'.done:=by
 rcases h with rfl | ⟨t0,h1,rfl⟩ <;> rfl
theorem MX.ok {p:GPermitPlan} (ho:FB p) {A A':AO} (h:MX p A A') {x:aU} (hx:(xA p A x).2.2=0):(xA p A' x).2.2=0∧(xA p A' x).1=(xA p A x).1:=by
  have hd:=h.done
  have key:xA p A' x=xA p A x:=by
    unfold xA at hx ⊢
    cases h1:(decide (x.Op<0)||decide (12≤x.Op)||decide (x.At<0)||decide (1000000<x.At)) with
    | true=>rw [h1] at hx;exact absurd (show (2:Int)=0 from hx) (by decide)
    | false =>
      rw [h1] at hx
      rw [kC] at hx ⊢
      by_cases h2:x.At<A.now
      · rw [dT h2] at hx;exact absurd (show (10:Int)=0 from hx) (by decide)
      · obtain ⟨h3, h4⟩ := h.set ho (t := x.At) (by omega)
        rw [dF h2,dF (by omega:¬ x.At<A'.now),kC,kC,kC,h4,hd]
  rw [key];exact ⟨hx,rfl⟩
theorem MX.no {p:GPermitPlan} (ho:FB p) {A A':AO} (h:MX p A A') {x:aU} (hx:(xA p A x).2.2≠0):MX p (xA p A x).1 A':=by
 rcases XC hx with h1 | ⟨h1,h2⟩
 ·rw [h1];exact h
 ·obtain ⟨h3,h4⟩:=h.set ho h1
  rw [h2,h4];exact .inr ⟨_,h3,rfl⟩
theorem SN {p:GPermitPlan} {x:aU}:∀ {d:List aU} {A0:AO},(Ba p A0 d).2.2=0→(xA p (Ba p A0 d).1 x).2.2=0→Ba p A0 (d ++ [x])=((xA p (Ba p A0 d).1 x).1,(Ba p A0 d).2.1+1,0):=by
 intro d
 induction d with
 | nil=>intro A0 _ h;exact LG h
 | cons y d ih =>
  intro A0 h1 h2
  by_cases h:(xA p A0 y).2.2=0
  ·rw [LG h] at h1 h2 ⊢
   rw [List.cons_append,LG h]
   have:=ih (A0:=(xA p A0 y).1) h1 h2
   rw [this]
  ·rw [XB h] at h1;exact absurd h1 h
def SQ (p:GPermitPlan) (A:AO):Prop:=MX p A (Ba p (Lr p) A.done).1∧(Ba p (Lr p) A.done).2.2=0
theorem SQ.new {p:GPermitPlan}:SQ p (Lr p):=⟨.inl rfl,rfl⟩
theorem SQ.step {p:GPermitPlan} (ho:FB p) {A:AO} (h:SQ p A) (x:aU):SQ p (xA p A x).1:=by
 obtain ⟨h1,h2⟩:=h
 by_cases hx:(xA p A x).2.2=0
 ·obtain ⟨h3,h4⟩:=h1.ok ho hx
  unfold SQ
  rw [do_acc hx,SN h2 h3]
  exact ⟨.inl h4.symm,rfl⟩
 ·unfold SQ
  rw [QJ hx]
  exact ⟨h1.no ho hx,h2⟩
theorem settled {p:GPermitPlan} {A:AO} (h:I8 p A):dP p A=A:=by
  have h1:(qg p A).es=A.es:=by
    funext s
    cases hs:iU p s with
    | false=>show (bif iU p s then _ else A.es s)=_;rw [hs];rfl
    | true =>
      obtain ⟨hx,hn⟩:=nN hs
      rw [DX hs]
      rcases wO (t:=A.now) (e:=A.es s) with ⟨h2,h3,_⟩ | ⟨_,h3⟩
      · have := h.li _ hx (by rw [hn]; exact h2)
        rw [hn] at this;omega
      · exact h3
  have e1:qg p A=A:=by show ({ A with es:=(qg p A).es }:AO)=A;rw [h1]
  have h2:(uO p A).es=A.es:=by
    funext s
    rw [ET]
    cases hs:iU p s with
    | false=>rfl
    | true =>
      obtain ⟨hx,hn⟩:=nN hs
      by_cases h2:stA A s=2
      · rw [h.un _ hx (by rw [hn];exact h2),Bool.and_false];rfl
      · rw [dF h2,Bool.and_false];rfl
  unfold dP
  rw [e1]
  show ({ A with es:=(uO p A).es }:AO)=A
  rw [h2]
end Go.KB
namespace Go.KB
set_option linter.unusedVariables false
theorem Vd {β:Type} {c:β→β→Option Int} {k:β→β→Int} {xs:List β} (hc:∀ x ∈ xs,∀ y ∈ xs,c x y=some (k x y)) (h1:∀ x y,k x y≤0↔0≤k y x) (h2:∀ x y,k x y=0→x=y) (h3:∀ x y z,k x y≤0→k y z≤0→k x z≤0):DV c xs:=by
 have hl:∀ x ∈ xs,∀ y ∈ xs,H8 c x y=decide (k x y<0):=fun x hx y hy=>by unfold H8;rw [hc x hx y hy]
 have h0:∀ x,k x x=0:=fun x=>by
  have:=h1 x x
  omega
 refine ⟨fun x hx y hy=>⟨_,hc x hx y hy⟩,fun x hx=>by rw [hl x hx x hx,h0];rfl,fun x hx y hy z hz a b=>?_,fun x hx y hy z hz a b=>?_,fun x hx y hy a b=>?_⟩
 ·rw [hl x hx y hy,decide_eq_true_eq] at a
  rw [hl y hy z hz,decide_eq_true_eq] at b
  rw [hl x hx z hz,decide_eq_true_eq]
  have h4:=h3 x y z (by omega) (by omega)
  by_cases h5:k x z=0
  ·have:=h2 _ _ h5
   subst this
   have h6:=(h1 x y).1 (by omega)
   omega
  ·omega
 ·rw [hl x hx y hy,decide_eq_false_iff_not] at a
  rw [hl y hy z hz,decide_eq_false_iff_not] at b
  rw [hl x hx z hz,decide_eq_false_iff_not]
  have h4:=h3 z y x ((h1 z y).2 (by omega)) ((h1 y x).2 (by omega))
  have h5:=(h1 z x).1 h4
  omega
 ·rw [hl x hx y hy,decide_eq_false_iff_not] at a
  rw [hl y hy x hx,decide_eq_false_iff_not] at b
  refine h2 _ _ ?_
  have h4:=(h1 x y).2 (by omega)
  omega
def Bz:List Int→List Int→Int
 | [],[]=>0
 | [],_ :: _=>-1
 | _ :: _,[]=>1
 | x :: a,y :: b=>if x<y then -1 else if y<x then 1 else Bz a b
theorem Ve:∀ a b,Bz a b≤0↔0≤Bz b a:=by
 intro a
 induction a with
 | nil=>intro b;cases b <;> simp [Bz]
 | cons x a ih =>
  intro b
  cases b with
  | nil=>simp [Bz]
  | cons y b =>
   unfold Bz
   by_cases h1:x<y
   ·rw [if_pos h1,if_neg (by omega),if_pos h1];decide
   ·rw [if_neg h1]
    by_cases h2:y<x
    ·rw [if_pos h2,if_pos h2];decide
    ·rw [if_neg h2,if_neg h2,if_neg h1];exact ih b
theorem Vf:∀ a b,Bz a b=0→a=b:=by
 intro a
 induction a with
 | nil=>intro b h;cases b with
  | nil=>rfl
  | cons _ _=>simp [Bz] at h
 | cons x a ih =>
  intro b h
  cases b with
  | nil=>simp [Bz] at h
  | cons y b =>
   unfold Bz at h
   by_cases h1:x<y
   ·rw [if_pos h1] at h;exact absurd h (by decide)
   ·rw [if_neg h1] at h
    by_cases h2:y<x
    ·rw [if_pos h2] at h;exact absurd h (by decide)
    ·rw [if_neg h2] at h
     rw [ih b h,show x=y by omega]
theorem SS:∀ a b c,Bz a b≤0→Bz b c≤0→Bz a c≤0:=by
 intro a
 induction a with
 | nil=>intro b c _ _;cases c <;> simp [Bz]
 | cons x a ih =>
  intro b c h1 h2
  cases b with
  | nil=>simp [Bz] at h1
  | cons y b =>
   cases c with
   | nil=>simp [Bz] at h2
   | cons z c =>
    unfold Bz at h1 h2 ⊢
    by_cases g1:x<y
    ·by_cases g2 : y < z
     ·rw [if_pos (by omega)];decide
     ·rw [if_neg g2] at h2
      by_cases g3:z<y
      ·rw [if_pos g3] at h2;exact absurd h2 (by decide)
      ·rw [if_pos (by omega)];decide
    ·rw [if_neg g1] at h1
     by_cases g3:y<x
     ·rw [if_pos g3] at h1;exact absurd h1 (by decide)
     ·rw [if_neg g3] at h1
      by_cases g2:y<z
      ·rw [if_pos (by omega)];decide
      ·rw [if_neg g2] at h2
       by_cases g4:z<y
       ·rw [if_pos g4] at h2;exact absurd h2 (by decide)
       ·rw [if_neg g4] at h2
        rw [if_neg (by omega),if_neg (by omega)]
        exact ih b c h1 h2
def I9 (a b:List Int):Int:=if a.length<b.length then -1 else if b.length<a.length then 1 else Bz a b
theorem Vg (a b:List Int):I9 a b≤0↔0≤I9 b a:=by
 unfold I9
 by_cases h1:a.length<b.length
 ·rw [if_pos h1,if_neg (by omega),if_pos h1];decide
 ·rw [if_neg h1]
  by_cases h2:b.length<a.length
  ·rw [if_pos h2,if_pos h2];decide
  ·rw [if_neg h2,if_neg h2,if_neg h1];exact Ve a b
theorem Vh (a b:List Int) (h:I9 a b=0):a=b:=by
 unfold I9 at h
 by_cases h1:a.length<b.length
 ·rw [if_pos h1] at h;exact absurd h (by decide)
 ·rw [if_neg h1] at h
  by_cases h2:b.length<a.length
  ·rw [if_pos h2] at h;exact absurd h (by decide)
  ·rw [if_neg h2] at h;exact Vf a b h
theorem SV (a b c:List Int) (h1:I9 a b≤0) (h2:I9 b c≤0):I9 a c≤0:=by
  unfold I9 at h1 h2 ⊢
  have e1:a.length≤b.length:=Nat.le_of_not_lt fun h=>by rw [if_neg (by omega),if_pos h] at h1;exact absurd h1 (by decide)
  have e2:b.length≤c.length:=Nat.le_of_not_lt fun h=>by rw [if_neg (by omega),if_pos h] at h2;exact absurd h2 (by decide)
  by_cases h:a.length<c.length
  · rw [if_pos h];decide
  · rw [if_neg h, if_neg (by omega)]
    rw [if_neg (by omega),if_neg (by omega)] at h1 h2
    exact SS a b c h1 h2
theorem XD {N:Nat} {a:Int}:uI N a=some false:=by
 unfold uI
 rw [oz];simp
theorem FZ {N:Nat} {a b:Int}:rG N a b=some (if a<b then -1 else if b<a then 1 else 0):=by
 unfold rG
 rw [XD,XD,bS,bS,kC,kC,bH,rY]
 by_cases h1:a<b
 ·rw [dT h1,if_pos h1];rfl
 ·rw [dF h1,if_neg h1,kC]
  by_cases h2:b<a
  ·rw [dT h2,if_pos h2];rfl
  ·rw [dF h2,if_neg h2];rfl
theorem Vj {a b:List Int}:∀ {i:Nat},(hi:i<a.length)→Bz (a.drop i) (b.drop i)=(if h:i<b.length then (if a[i]<b[i] then -1 else if b[i]<a[i] then 1 else Bz (a.drop (i+1)) (b.drop (i+1))) else 1):=by
 intro i hi
 rw [List.drop_eq_getElem_cons hi]
 by_cases h:i<b.length
 ·rw [dif_pos h,List.drop_eq_getElem_cons h];rfl
 ·rw [dif_neg h,List.drop_of_length_le (l:=b) (by omega)];rfl
theorem Ja {N:Nat} {a b:List Int} (ha:a.length<1000000) (hb:b.length<1000000) (hN:1000000≤N):nZ N a b=some (Bz a b):=by
 have key:∀ k i M,i+k=a.length→k<M→∃ o,bW (fP N a b) M (i:Int)=some o∧Sum.elim (fun _=>if a.length<b.length then (-1:Int) else 0) (fun r=>r) o=Bz (a.drop i) (b.drop i):=by
  intro k
  induction k with
  | zero =>
   intro i M hi hM
   obtain ⟨M,rfl⟩:∃ m,M=m+1:=⟨M - 1,by omega⟩
   have e:fP N a b (i:Int)=some (.inr (.inl ())):=by
    unfold fP
    rw [bH,dF (by omega),kC]
   refine ⟨.inl (),by rw [bW,e],?_⟩
   rw [List.drop_of_length_le (l:=a) (by omega)]
   simp only [Sum.elim_inl]
   by_cases h:a.length<b.length
   ·rw [if_pos h,List.drop_eq_getElem_cons (l:=b) (by omega)];rfl
   ·rw [if_neg h,List.drop_of_length_le (l:=b) (by omega)];rfl
  | succ k ih =>
   intro i M hi hM
   obtain ⟨M,rfl⟩:∃ m,M=m+1:=⟨M - 1,by omega⟩
   have hia:i<a.length:=by omega
   rw [Vj hia]
   by_cases h:i<b.length
   ·rw [dif_pos h]
    have e:fP N a b (i:Int)=bif aS .neq (if a[i]<b[i] then -1 else if b[i]<a[i] then 1 else 0) 0 then some (.inr (Sum.inr (if a[i]<b[i] then -1 else if b[i]<a[i] then 1 else 0))) else some (.inl ((i+1:Nat):Int)):=by
     unfold fP
     rw [bH,dT (by omega),lJ,iW hia,bS,xB,dF (by omega),kC,iW h,bS,FZ,bS,oG (by omega)]
    by_cases h1:a[i]<b[i]
    ·rw [if_pos h1] at e
     exact ⟨.inr (-1),by rw [bW,e];rfl,by rw [if_pos h1];rfl⟩
    ·by_cases h2 : b[i] < a[i]
     ·rw [if_neg h1,if_pos h2] at e
      exact ⟨.inr 1,by rw [bW,e];rfl,by rw [if_neg h1,if_pos h2];rfl⟩
     ·rw [if_neg h1,if_neg h2] at e
      obtain ⟨o,h3,h4⟩:=ih (i+1) M (by omega) (by omega)
      exact ⟨o,by rw [bW,e];exact h3,by rw [if_neg h1,if_neg h2];exact h4⟩
   ·rw [dif_neg h]
    have e:fP N a b (i:Int)=some (.inr (Sum.inr 1)):=by
     unfold fP
     rw [bH,dT (by omega),lJ,iW hia,bS,xB,dT (by omega),lJ]
    exact ⟨.inr 1,by rw [bW,e],rfl⟩
 obtain ⟨o,h1,h2⟩:=key a.length 0 N (by omega) (by omega)
 unfold nZ
 have h1:bW (fP N a b) N 0=some o:=h1
 rw [h1,bS]
 rw [List.drop_zero,List.drop_zero] at h2
 cases o with
 | inl u =>
  simp only [Sum.elim_inl] at h2 ⊢
  rw [← h2,bH]
  by_cases h:a.length<b.length
  ·rw [dT (by omega),if_pos h];rfl
  ·rw [dF (by omega),if_neg h];rfl
 | inr r=>simp only [Sum.elim_inr] at h2 ⊢;rw [h2]
theorem XE {N:Nat} {a b:Int} (hN:1000000≤N):zk N [a,b]=some (if a=0 then b else a):=by
  obtain ⟨N,rfl⟩:∃ m,N=m+3:=⟨N - 3,by omega⟩
  unfold zk
  have e0:og (N+3) [a,b] 0=bif aS .neq a 0 then some (.inr (Sum.inr a)) else some (.inl 1):=rfl
  have e1:og (N+3) [a,b] 1=bif aS .neq b 0 then some (.inr (Sum.inr b)) else some (.inl 2):=rfl
  have e2:og (N+3) [a,b] 2=some (.inr (.inl ())):=rfl
  by_cases h:a=0
  · have e0 : og (N + 3) [a, b] 0 = some (.inl 1) := by rw [e0, oz, dT h]; rfl
    rw [if_pos h,bW,e0]
    simp only []
    by_cases h1:b=0
    · have e1 : og (N + 3) [a, b] 1 = some (.inl 2) := by rw [e1, oz, dT h1]; rfl
      rw [bW,e1]
      simp only []
      rw [bW,e2,h1];rfl
    · have e1 : og (N + 3) [a, b] 1 = some (.inr (Sum.inr b)) := by rw [e1, oz, dF h1]; rfl
      rw [bW,e1];rfl
  · have e0 : og (N + 3) [a, b] 0 = some (.inr (Sum.inr a)) := by rw [e0, oz, dF h]; rfl
    rw [if_neg h,bW,e0];rfl
theorem Vk {N:Nat} {a b:List Int} (ha:a.length<1000000) (hb:b.length<1000000) (hN:1000000≤N):lM N a b=some (I9 a b):=by
  unfold lM
  rw [FZ,bS,Ja ha hb hN,bS,XE hN,bS]
  unfold I9
  by_cases h1:a.length<b.length
  · have e : (if (a.length : Int) < (b.length : Int) then (-1 : Int) else if (b.length : Int) < a.length then 1 else 0) = -1 := if_pos (by omega)
    rw [e,if_pos h1];rfl
  · by_cases h2 : b.length < a.length
    · have e : (if (a.length : Int) < (b.length : Int) then (-1 : Int) else if (b.length : Int) < a.length then 1 else 0) = 1 := by rw [if_neg (by omega), if_pos (by omega)]
      rw [e,if_neg h1,if_pos h2];rfl
    · have e : (if (a.length : Int) < (b.length : Int) then (-1 : Int) else if (b.length : Int) < a.length then 1 else 0) = 0 := by rw [if_neg (by omega), if_neg (by omega)]
      rw [e,if_neg h1,if_neg h2];rfl
def tu (n b:Nat):List Nat:=(List.range n).filter fun i=>b.testBit i
def uX (p:GPermitPlan) (b:Nat):List aA:=(tu p.ai.length b).map fun i=>p.ai[i]!
def Gz (p:GPermitPlan):List (List Int):=((List.range (2 ^ p.ai.length)).filter fun b=>xO p (uX p b)).map fun b=>(tu p.ai.length b).map fun (i:Nat)=>(i:Int)
def A8 (p:GPermitPlan):List (List Int):=yh (fun a b=>some (I9 a b)) (Gz p)
theorem bit_eq {b i:Nat} (hb:b<1024) (hi:i<20):((SH .i64 (b:Int) (i:Int)).bind fun v5=>some (aS .eql (SG .and .i64 v5 1) 1))=some (b.testBit i):=by
 have e1:SH .i64 (b:Int) (i:Int)=some ((b / 2 ^ i:Nat):Int):=by
  unfold SH
  rw [if_neg (by omega)]
  have:min (i:Int).toNat IntKind.i64.bits=i:=by
   show min (i:Int).toNat 64=i
   omega
  rw [this,Int.fdiv_eq_ediv_of_nonneg _ (by exact_mod_cast Nat.zero_le _)]
  congr 1
 have hq:b / 2 ^ i<1024:=Nat.lt_of_le_of_lt (Nat.div_le_self _ _) hb
 have e2:SG .and .i64 ((b / 2 ^ i:Nat):Int) 1=((b / 2 ^ i % 2:Nat):Int):=by
  unfold SG
  simp only []
  have e:(BitVec.ofInt IntKind.i64.bits ((b / 2 ^ i:Nat):Int) &&& BitVec.ofInt IntKind.i64.bits (1:Int)).toNat=b / 2 ^ i % 2:=by
   rw [BitVec.ofInt_natCast,BitVec.toNat_and,BitVec.toNat_ofNat]
   show b / 2 ^ i % 2 ^ 64 &&& 1=_
   rw [Nat.mod_eq_of_lt (by omega)]
   exact Nat.and_two_pow_sub_one_eq_mod _ 1
  rw [e]
  exact Y0 (by omega) (by omega)
 rw [e1,bS,e2,pW,Nat.testBit_eq_decide_div_mod_eq]
 congr 1
 rw [decide_eq_decide]
 omega
theorem DY {α β γ : Type} (g : α → Bool) (h1 : α → β) (h2 : α → γ) : ∀ (l : List α) (a : List β) (c : List γ), l.foldl (fun t x => bif g x then (t.1 ++ [h1 x], t.2 ++ [h2 x]) else t) (a, c) = (a ++ (l.filter g).map h1, c ++ (l.filter g).map h2)
  | [],a,c=>by simp
  | x :: r,a,c=>by
    rw [List.foldl_cons]
    cases hx:g x with
    | true =>
      rw [lJ,DY g h1 h2 r]
      rw [List.filter_cons_of_pos hx];simp
    | false=>rw [kC,DY g h1 h2 r,List.filter_cons_of_neg (by rw [hx];decide)]
theorem LJ {β:Type} {c c':β→β→Option Int} {x:β}:∀ l,(∀ y ∈ l,H8 c y x=H8 c' y x)→IZ c x l=IZ c' x l
 | [],_=>rfl
 | y :: l,h=>by
  show (bif H8 c y x then y :: IZ c x l else x :: y :: l)=(bif H8 c' y x then y :: IZ c' x l else x :: y :: l)
  rw [h y List.mem_cons_self,LJ l fun z hz=>h z (List.mem_cons_of_mem _ hz)]
theorem H9 {β:Type} {c c':β→β→Option Int}:∀ l,(∀ x ∈ l,∀ y ∈ l,H8 c x y=H8 c' x y)→yh c l=yh c' l
 | [],_=>rfl
 | x :: l,h=>by
  show IZ c x (yh c l)=IZ c' x (yh c' l)
  rw [H9 l fun y hy z hz=>h y (List.mem_cons_of_mem _ hy) z (List.mem_cons_of_mem _ hz)]
  exact LJ _ fun y hy=>h y (List.mem_cons_of_mem _ ((wB c' l).mem_iff.1 hy)) x List.mem_cons_self
theorem Jb {n b i:Nat} (h:i ∈ tu n b):i<n:=by
 unfold tu at h
 exact List.mem_range.1 (List.mem_filter.1 h).1
theorem Gx {n b:Nat}:(tu n b).length≤n:=by
 unfold tu
 exact Nat.le_trans (List.length_filter_le _ _) (by rw [List.length_range];exact Nat.le_refl _)
theorem QE {p:GPermitPlan} {a:List Int} (h:a ∈ Gz p):∃ b,b<2 ^ p.ai.length∧xO p (uX p b)=true∧a=(tu p.ai.length b).map fun (i:Nat)=>(i:Int):=by
 unfold Gz at h
 obtain ⟨b,hb,rfl⟩:=List.mem_map.1 h
 obtain ⟨h1,h2⟩:=List.mem_filter.1 hb
 exact ⟨b,List.mem_range.1 h1,h2,rfl⟩
theorem XF {p:GPermitPlan} {b:Nat} (h1:b<2 ^ p.ai.length) (h2:xO p (uX p b)=true):((tu p.ai.length b).map fun (i:Nat)=>(i:Int)) ∈ Gz p :=
 List.mem_map.2 ⟨b,List.mem_filter.2 ⟨List.mem_range.2 h1,h2⟩,rfl⟩
theorem FD {p:GPermitPlan} {a:List Int}:a ∈ A8 p↔a ∈ Gz p:=(wB _ _).mem_iff
theorem QK {p:GPermitPlan}:(Gz p).length≤2 ^ p.ai.length:=by
 unfold Gz
 rw [List.length_map]
 exact Nat.le_trans (List.length_filter_le _ _) (by rw [List.length_range];exact Nat.le_refl _)
theorem JZ {p:GPermitPlan} {a:List Int} (h:a ∈ Gz p):a.length≤p.ai.length∧∀ i ∈ a,∃ k:Nat,i=(k:Int)∧k<p.ai.length:=by
 obtain ⟨b,_,_,rfl⟩:=QE h
 refine ⟨by rw [List.length_map];exact Gx,fun i hi=>?_⟩
 obtain ⟨k,hk,rfl⟩:=List.mem_map.1 hi
 exact ⟨k,rfl,Jb hk⟩
theorem pow10 {n:Nat} (h:n≤10):2 ^ n≤1024:=by
 have:=Nat.pow_le_pow_right (n:=2) (by decide) h
 exact this
section
variable {N:Nat} {p:GPermitPlan} (hp:Eh p) (hN:1000000≤N) (hn:p.ai.length≤10)
include hN hn in
theorem Vl {b:Nat} (hb:b<1024) (out:List (List Int)):bW (qC N p (out,(b:Int))) N ([],[],0)=some ((tu p.ai.length b).map (fun (i:Nat)=>(i:Int)),uX p b):=by
  have hlim:lim ≥ 10000000:=by decide
  have key:=Gw (N:=N) (f:=qC N p (out,(b:Int))) (List.range p.ai.length) (([]:List Int),([]:List aA)) (fun t i=>bif b.testBit i then (t.1 ++ [(i:Int)],t.2 ++ [p.ai[i]!]) else t) (fun t i=>(t.1,t.2,i)) (fun t=>(t.1,t.2)) (fun i hi t ht=>?_) (fun t=>?_) (by rw [List.length_range];omega)
  · rw [DY (fun i => b.testBit i) (fun (i : Nat) => (i : Int)) (fun i => p.ai[i]!)] at key
    exact key
  · rw [List.length_range] at hi
    rw [List.getElem_range]
    rw [DY (fun i=>b.testBit i) (fun (i:Nat)=>(i:Int)) (fun i=>p.ai[i]!)] at ht
    have hl:=List.length_filter_le (fun i=>b.testBit i) ((List.range p.ai.length).take i)
    have hl2:((List.range p.ai.length).take i).length≤10:=by rw [List.length_take,List.length_range];omega
    have ht1:t.1.length≤10:=by rw [ht];simp only [List.nil_append,List.length_map];omega
    have ht2:t.2.length≤10:=by rw [ht];simp only [List.nil_append,List.length_map];omega
    unfold qC
    simp only []
    have hbit:=bit_eq hb (i:=i) (by omega)
    cases hs:SH .i64 (b:Int) (i:Int) with
    | none=>rw [hs] at hbit;cases hbit
    | some v5 =>
      rw [hs,bS] at hbit
      rw [bH,dT (by omega),lJ,A7 hi,bS,bS,Option.some.inj hbit]
      cases b.testBit i with
      | true=>rw [lJ,lJ,Cc (by simp only [List.length_singleton];omega),bS,Cc (by simp only [List.length_singleton];omega),bS,oG (by omega)]
      | false=>rw [kC,kC,oG (by omega)]
  · unfold qC
    simp only [List.length_range]
    rw [bH,dF (by omega),kC]
theorem SX {b:Nat} {x:aA} (h:x ∈ uX p b):x ∈ p.ai:=by
 unfold uX at h
 obtain ⟨i,hi,rfl⟩:=List.mem_map.1 h
 rw [wC (Jb hi)]
 exact List.getElem_mem _
theorem SY {b:Nat}:(uX p b).length≤p.ai.length:=by
 unfold uX;rw [List.length_map];exact Gx
include hp hN hn in
theorem XG:bW (qB N p ((2 ^ p.ai.length:Nat):Int)) N ([],0)=some (Gz p):=by
 have hlim:lim ≥ 10000000:=by decide
 have h10:=pow10 hn
 rw [Ia (f:=qB N p ((2 ^ p.ai.length:Nat):Int)) (List.range (2 ^ p.ai.length)) [] (fun b=>xO p (uX p b)) (fun b=>(tu p.ai.length b).map fun (i:Nat)=>(i:Int)) (fun a i=>(a,i)) (fun a=>a) (fun j hj acc hacc=>?_) (fun acc=>?_) (by rw [List.length_range];omega)]
 ·rfl
 ·rw [List.length_range] at hj hacc
  rw [List.getElem_range]
  unfold qB
  simp only []
  rw [bH,dT (by omega),lJ,Vl hN hn (by omega),bS]
  simp only []
  rw [Jz hp (Nat.lt_of_le_of_lt SY (by omega)) (fun x hx=>hp.l x (SX hx)) hN,bS]
  simp only [List.length_nil] at hacc
  cases xO p (uX p j) with
  | true=>rw [lJ,lJ,Cc (by simp only [List.length_singleton];omega),bS,oG (by omega)]
  | false=>rw [kC,kC,oG (by omega)]
 ·unfold qB
  simp only [List.length_range]
  rw [bH,dF (by omega),kC]
include hp hN hn in
theorem Y4:wW N p=some (A8 p):=by
 have h10:=pow10 hn
 have h64:Xp .i64 1 (p.ai.length:Int)=some ((2 ^ p.ai.length:Nat):Int):=by
  unfold Xp
  rw [if_neg (by omega)]
  have:min (p.ai.length:Int).toNat IntKind.i64.bits=p.ai.length:=by
   show min (p.ai.length:Int).toNat 64=_
   omega
  rw [this,Int.one_mul,show (2:Int) ^ p.ai.length=((2 ^ p.ai.length:Nat):Int) from (Int.natCast_pow 2 _).symm]
  generalize 2 ^ p.ai.length=q at h10
  rw [Y0 (by omega) (by omega)]
 unfold wW
 rw [h64,bS,XG hp hN hn,bS]
 have hcmp:∀ x ∈ Gz p,∀ y ∈ Gz p,lM N x y=some (I9 x y):=fun x hx y hy=>by
  have h1:=(JZ hx).1
  have h2:=(JZ hy).1
  exact Vk (by omega) (by omega) hN
 have hs:DV (fun y0 y1=>lM N y0 y1) (Gz p):=Vd hcmp Vg Vh SV
 have hl:=QK (p:=p)
 have e:pz N (Gz p) (fun y0 y1=>lM N y0 y1)=some (A8 p):=by
  unfold pz
  rw [SK hs (by omega)]
  congr 1
  exact H9 _ fun x hx y hy=>by
   show (match lM N x y with | some n=>decide (n<0) | none=>false)=_
   rw [hcmp x hx y hy];rfl
 rw [e];rfl
end
end Go.KB
namespace Go.KB
set_option linter.unusedVariables false
theorem NM {N:Nat} {a b:List Str} (ha:a.length<1000000) (hN:1000000≤N):wJ N a b=some (decide (a=b)):=by
  unfold wJ
  rw [oz]
  by_cases h:a.length=b.length
  · rw [dT (by omega), Bool.not_true, kC]
    have h3:bW (sG N a b) N 0=some (bif (List.range a.length).all (fun i=>decide (a[i]! = b[i]!)) then Sum.inl () else Sum.inr false):=by
      refine NR (fun i hi=>?_) ?_ (by omega)
      · have hi2 : i < b.length := by omega
        unfold sG
        rw [bH,dT (by omega),lJ,A7 hi,bS,A7 hi2,bS,QL,oG (by omega)]
        cases decide (a[i]! = b[i]!) <;> rfl
      · unfold sG
        rw [bH,dF (by omega),kC]
    rw [h3,bS]
    have e:decide (a=b)=(List.range a.length).all (fun i=>decide (a[i]! = b[i]!)):=by
      rw [Bool.eq_iff_iff,decide_eq_true_eq,List.all_eq_true]
      constructor
      · rintro rfl i hi;rw [decide_eq_true_eq]
      · intro hq
        refine List.ext_getElem h fun i h1 h2=>?_
        have:=hq i (List.mem_range.2 h1)
        rw [decide_eq_true_eq,wC h1,wC h2] at this
        exact this
    rw [e]
    cases (List.range a.length).all (fun i=>decide (a[i]! = b[i]!)) <;> rfl
  · rw [dF (by omega),Bool.not_false,lJ,dF (fun e=>h (by rw [e]))]
def subB (a b:List Str):Bool:=b.all fun s=>a.any fun t=>decide (t=s)
def Ij (p:GPermitPlan) (a:List Int):List Str:=a.map fun i=>p.ai[i.toNat]!.Name
def J3 (a b:List Int):Bool:=decide (a.length<b.length)&&a.all (fun i=>b.contains i)
def XH (p:GPermitPlan):List (List Int):=(A8 p).filter fun a=>!(A8 p).any (J3 a)
section
variable {N:Nat} {p:GPermitPlan} (hp:Eh p) (hN:1000000≤N) (hn:p.ai.length≤10)
theorem QD (hn:p.ai.length≤10):(A8 p).length≤1024:=by
 have h1:(A8 p).length=(Gz p).length:=(wB _ _).length_eq
 have h2:=QK (p:=p)
 have h3:=pow10 hn
 omega
include hN hn in
theorem XI {l:List (List Int)} (hl:l.length<1000000) (hm:∀ a ∈ l,a ∈ Gz p):vZ N p l=some (l.map (Ij p)):=by
 have hlim:lim ≥ 10000000:=by decide
 unfold vZ
 rw [Ia (f:=qP N p l) l [] (fun _=>true) (Ij p) (fun a i=>(a,i)) (fun a=>a) (fun j hj acc hacc=>?_) (fun acc=>?_) (by omega)]
 ·rw [List.filter_eq_self.2 (fun _ _=>rfl)];rfl
 ·simp only [List.length_nil] at hacc
  obtain ⟨h1,h2⟩:=JZ (hm _ (List.getElem_mem hj))
  have h3:bW (pV N p l[j]) N ([],0)=some (Ij p l[j]):=by
   rw [Ia (f:=pV N p l[j]) l[j] [] (fun _=>true) (fun i=>p.ai[i.toNat]!.Name) (fun a i=>(a,i)) (fun a=>a) (fun k hk acc hacc=>?_) (fun acc=>?_) (by omega)]
   ·rw [List.filter_eq_self.2 (fun _ _=>rfl)];rfl
   ·simp only [List.length_nil] at hacc
    obtain ⟨m,h4,h5⟩:=h2 _ (List.getElem_mem hk)
    unfold pV
    simp only []
    rw [bH,dT (by omega),lJ,iW hk,bS,h4,A7 h5,bS,Cc (by simp only [List.length_singleton];omega),bS,oG (by omega)];rfl
   ·unfold pV
    simp only []
    rw [bH,dF (by omega),kC]
  unfold qP
  simp only []
  rw [bH,dT (by omega),lJ,iW hj,bS,h3,bS,Cc (by simp only [List.length_singleton];omega),bS,oG (by omega)];rfl
 ·unfold qP
  simp only []
  rw [bH,dF (by omega),kC]
include hp hN in
theorem Vm:vY N p=some (if lV p≠0 then lV p else if 10<p.ai.length then 8 else 0):=by
  unfold vY
  rw [DZ hp hN,bS,oz,rY]
  by_cases h:lV p=0
  · rw [dT h, if_neg (fun e => e h), Bool.not_true, kC]
    by_cases h2:10<p.ai.length
    · rw [dT (by omega),if_pos h2];rfl
    · rw [dF (by omega),if_neg h2];rfl
  · rw [dF h,if_pos h];rfl
include hp hN hn in
theorem OZ (hc:lV p=0):rM N p=some ((A8 p).map (Ij p),0):=by
 have hl:=QD hn
 unfold rM
 rw [Vm hp hN,if_neg (fun e=>e hc),if_neg (by omega),bS,oz,dT rfl,Bool.not_true,kC,Y4 hp hN hn,bS,XI hN hn (by omega) (fun a ha=>FD.1 ha),bS]
include hp hN hn in
end
theorem Y5 (n:Nat):∀ φ:Nat→Bool,∃ b,b<2 ^ n∧∀ i,i<n→b.testBit i=φ i:=by
 induction n with
 | zero=>exact fun φ=>⟨0,by decide,fun i hi=>by omega⟩
 | succ n ih =>
  intro φ
  obtain ⟨b,h1,h2⟩:=ih fun i=>φ (i+1)
  refine ⟨2 * b+(bif φ 0 then 1 else 0),?_,fun i hi=>?_⟩
  ·rw [Nat.pow_succ];cases φ 0 <;> simp only [lJ,kC] <;> omega
  ·cases i with
   | zero =>
    rw [Nat.testBit_zero]
    cases φ 0 with
    | true=>simp only [lJ,decide_eq_true_eq];omega
    | false=>simp only [kC,decide_eq_false_iff_not];omega
   | succ i =>
    rw [Nat.testBit_succ,show (2 * b+(bif φ 0 then 1 else 0)) / 2=b by cases φ 0 <;> simp only [lJ,kC] <;> omega]
    exact h2 i (by omega)
theorem Gy {α : Type} [Inhabited α] (f : α → Bool) : ∀ l : List α, ((List.range l.length).filter fun i => f l[i]!).map (fun i => l[i]!) = l.filter f
  | []=>rfl
  | x :: l=>by
    have ih:=Gy f l
    rw [List.length_cons,List.range_succ_eq_map,List.filter_cons,List.filter_map,List.filter_cons]
    have e:((fun i=>f (x :: l)[i]!) ∘ Nat.succ)=fun i=>f l[i]!:=by funext i;simp
    rw [e]
    have e0:(x :: l)[0]! = x:=rfl
    have e2:∀ m:List Nat,(m.map Nat.succ).map (fun i=>(x :: l)[i]!)=m.map fun i=>l[i]!:=fun m=>by rw [List.map_map];refine List.map_congr_left fun i _=>?_;simp
    cases hf:f x with
    | true=>rw [e0,if_pos hf,if_pos rfl,List.map_cons,e0,e2,ih]
    | false=>rw [e0,hf,if_neg (by decide),if_neg (by decide),e2,ih]
theorem XJ {p:GPermitPlan} {φ:aA→Bool} (h:xO p (p.ai.filter φ)=true):∃ b,b<2 ^ p.ai.length∧xO p (uX p b)=true∧(∀ i,i<p.ai.length→b.testBit i=φ p.ai[i]!)∧Ij p ((tu p.ai.length b).map fun (i:Nat)=>(i:Int))=(p.ai.filter φ).map fun x=>x.Name:=by
 obtain ⟨b,h1,h2⟩:=Y5 p.ai.length fun i=>φ p.ai[i]!
 have e:tu p.ai.length b=(List.range p.ai.length).filter fun i=>φ p.ai[i]!:=by
  unfold tu
  exact List.filter_congr fun i hi=>h2 i (List.mem_range.1 hi)
 have e2:uX p b=p.ai.filter φ:=by
  unfold uX
  rw [e];exact Gy φ p.ai
 refine ⟨b,h1,by rw [e2];exact h,h2,?_⟩
 rw [← e2]
 unfold Ij uX
 rw [List.map_map,List.map_map]
 exact List.map_congr_left fun i _=>by simp
theorem Y6 {p:GPermitPlan} {φ:aA→Bool} (h:xO p (p.ai.filter φ)=true):∃ a ∈ A8 p,Ij p a=(p.ai.filter φ).map fun x=>x.Name:=by
 obtain ⟨b,h1,h2,_,h4⟩:=XJ h
 exact ⟨_,FD.2 (XF h1 h2),h4⟩
theorem Vo {p:GPermitPlan}:∀ (k:Nat) (a:List Int),a ∈ A8 p→p.ai.length≤a.length+k→∃ m ∈ XH p,∀ i ∈ a,i ∈ m:=by
 intro k
 induction k with
 | zero =>
  intro a ha hk
  refine ⟨a,List.mem_filter.2 ⟨ha,?_⟩,fun i hi=>hi⟩
  rw [Bool.not_eq_true',List.any_eq_false]
  intro b hb
  have:=(JZ (FD.1 hb)).1
  unfold J3
  rw [dF (by omega),Bool.false_and];decide
 | succ k ih =>
  intro a ha hk
  cases h:(A8 p).any (J3 a) with
  | false=>exact ⟨a,List.mem_filter.2 ⟨ha,by rw [h];rfl⟩,fun i hi=>hi⟩
  | true =>
   obtain ⟨b,hb,hw⟩:=List.any_eq_true.1 h
   unfold J3 at hw
   rw [Bool.and_eq_true,decide_eq_true_eq,List.all_eq_true] at hw
   obtain ⟨m,hm,hs⟩:=ih b hb (by omega)
   exact ⟨m,hm,fun i hi=>hs i (List.contains_iff_mem.1 (hw.2 i hi))⟩
theorem S9 {p:GPermitPlan} {a:List Int} (ha:a ∈ A8 p):∃ m ∈ XH p,subB (Ij p m) (Ij p a)=true:=by
 obtain ⟨m,hm,h⟩:=Vo p.ai.length a ha (by omega)
 refine ⟨m,hm,?_⟩
 unfold subB
 rw [List.all_eq_true]
 intro s hs
 unfold Ij at hs
 obtain ⟨i,hi,rfl⟩:=List.mem_map.1 hs
 rw [List.any_eq_true]
 exact ⟨_,List.mem_map.2 ⟨i,h i hi,rfl⟩,by rw [decide_eq_true_eq]⟩
end Go.KB
namespace Go.KB
set_option linter.unusedVariables false
def stB (n b:Nat):List Int:=(tu n b).map fun (i:Nat)=>(i:Int)
theorem Xz {p:GPermitPlan} {b:Nat} {s:Str}:s ∈ Ij p (stB p.ai.length b)↔∃ i,i<p.ai.length∧b.testBit i=true∧p.ai[i]!.Name=s:=by
 unfold Ij stB tu
 rw [List.map_map,List.mem_map]
 constructor
 ·rintro ⟨i,hi,rfl⟩
  obtain ⟨h1,h2⟩:=List.mem_filter.1 hi
  exact ⟨i,List.mem_range.1 h1,h2,rfl⟩
 ·rintro ⟨i,h1,h2,rfl⟩
  exact ⟨i,List.mem_filter.2 ⟨List.mem_range.2 h1,h2⟩,rfl⟩
theorem Xx {p:GPermitPlan} (ho:FB p) {b:Nat}:(Ij p (stB p.ai.length b)).Nodup:=by
 unfold Ij stB tu
 rw [List.map_map]
 exact List.pairwise_map.2 ((List.nodup_range.filter _).imp_of_mem fun hi hj hne e=>hne (ho.pd _ _ (List.mem_range.1 (List.mem_filter.1 hi).1) (List.mem_range.1 (List.mem_filter.1 hj).1) e))
theorem nm_has {p:GPermitPlan} {b:Nat}:∀ s ∈ Ij p (stB p.ai.length b),iU p s=true:=fun s hs=>by
 obtain ⟨i,h1,_,rfl⟩:=Xz.1 hs
 exact uN.2 ⟨_,by rw [wC h1];exact List.getElem_mem _,rfl⟩
theorem Xy {p:GPermitPlan} (ho:FB p) {b:Nat}:(Ij p (stB p.ai.length b)).map (nR p)=uX p b:=by
 unfold Ij stB uX
 rw [List.map_map,List.map_map]
 refine List.map_congr_left fun i hi=>?_
 have:=Jb hi
 show nR p p.ai[((i:Int)).toNat]!.Name=_
 rw [Int.toNat_natCast,ho.xH (by rw [wC this];exact List.getElem_mem _)]
theorem U9 {p:GPermitPlan}:XH p≠[]:=by
 have h0:xO p (p.ai.filter fun _=>false)=true:=by
  rw [List.filter_eq_nil_iff.2 (fun _ _=>by decide)];rfl
 obtain ⟨a,ha,_⟩:=Y6 h0
 obtain ⟨m,hm,_⟩:=S9 ha
 exact List.ne_nil_of_mem hm
end Go.KB
namespace Go.KB
set_option linter.unusedVariables false
def Et (y:aA):aA:={ y with From:=0,To:=100 }
def tq (p:GPermitPlan):GPermitPlan:={ p with ai:=p.ai.map Et }
theorem FC {p:GPermitPlan}:(tq p).ai.length=p.ai.length:=by
 show (p.ai.map Et).length=_
 rw [List.length_map]
theorem Ib {p:GPermitPlan} {i:Nat} (hi:i<p.ai.length):(tq p).ai[i]! = Et p.ai[i]!:=by
 rw [wC (by rw [FC];exact hi),wC hi]
 exact List.getElem_map _
theorem XK {p:GPermitPlan} {s:Str}:iU (tq p) s=iU p s:=by
 show (p.ai.map Et).any (FW s)=p.ai.any (FW s)
 rw [List.any_map];rfl
theorem Y7 {p:GPermitPlan} {s:Str} (h:iU p s=true):nR (tq p) s=Et (nR p s):=by
 unfold nR yu
 have e:(tq p).ai.find? (FW s)=(p.ai.find? (FW s)).map Et:=by
  show (p.ai.map Et).find? (FW s)=_
  rw [List.find?_map];rfl
 rw [e]
 cases hf:p.ai.find? (FW s) with
 | none =>
  rw [List.find?_eq_none] at hf
  unfold iU at h
  rw [List.any_eq_true] at h
  obtain ⟨x,hx,hs⟩:=h
  exact absurd hs (hf x hx)
 | some y=>rfl
theorem Vp {p:GPermitPlan}:∀ {i:Nat} {s:Str},i≤p.ai.length→dup (Eu (tq p)) i s=dup (Eu p) i s:=by
 intro i
 induction i with
 | zero=>intro s _;rfl
 | succ i ih =>
  intro s hi
  show (decide (s=Eu (tq p) i)||dup (Eu (tq p)) i s)=(decide (s=Eu p i)||dup (Eu p) i s)
  rw [ih (by omega)]
  have:Eu (tq p) i=Eu p i:=by unfold Eu;rw [Ib (by omega)];rfl
  rw [this]
theorem U7 {p:GPermitPlan} (h:lV p=0):lV (tq p)=0:=by
 have hl:=FC (p:=p)
 unfold lV at h ⊢
 split at h
 ·cases h
 rename_i hb
 rw [if_neg (by rw [hl];exact hb)]
 split at h
 ·cases h
 rename_i hg
 rw [if_neg (show ¬ ((tq p).dw<1∨10000<(tq p).dw) from hg)]
 obtain ⟨h1,h2⟩:=JA h
 obtain ⟨h1,h3⟩:=JA h1
 obtain ⟨h4,h5⟩:=JA h2
 obtain ⟨h5,h6⟩:=JA h5
 have e1:dZ (VL (tq p)) (tq p).bF.length 0=0:=h1
 have e3:dZ (JL (tq p)) (tq p).bF.length 0=0:=h3
 have e4:dZ (eEx (tq p)) (tq p).cZ.length 0=0:=h4
 have e5:dZ (Yn (tq p)) (tq p).ai.length 0=0:=by
  refine Af fun j _ hj=>?_
  have hj:j<p.ai.length:=by omega
  have he:=tX h5 j (by omega) (by omega)
  unfold Yn at he ⊢
  have e:Eu (tq p) j=Eu p j:=by unfold Eu;rw [Ib hj];rfl
  rw [e,Vp (by omega),Ib hj]
  split at he
  ·cases he
  rename_i a1
  rw [if_neg a1]
  split at he
  ·cases he
  rename_i a2
  rw [if_neg a2]
  split at he
  ·cases he
  rename_i a3
  rw [if_neg (show ¬ (yw (Et p.ai[j]!).Kind=false∨(Et p.ai[j]!).From<0∨(Et p.ai[j]!).To≤(Et p.ai[j]!).From∨1000000<(Et p.ai[j]!).To) from fun q=>by
   rcases q with q | q | q | q
   ·exact a3 (.inl q)
   ·exact absurd (show (0:Int)<0 from q) (by decide)
   ·exact absurd (show (100:Int)≤0 from q) (by decide)
   ·exact absurd (show (1000000:Int)<100 from q) (by decide))]
  exact he
 have e6:dZ (MZ (tq p)) (tq p).ai.length 0=0:=by
  refine Af fun j _ hj=>?_
  have hj:j<p.ai.length:=by omega
  have he:=tX h6 j (by omega) (by omega)
  unfold MZ at he ⊢
  rw [Ib hj]
  refine Af fun k _ hk=>?_
  have hk:k<p.ai[j]!.Locks.length:=by have:(Et p.ai[j]!).Locks=p.ai[j]!.Locks:=rfl;rw [this] at hk;omega
  have he:=tX he k (by omega) (by omega)
  unfold eLk at he ⊢
  rw [XK]
  show (if iU p p.ai[j]!.Locks[k]! = false then (6:Int) else if (nR (tq p) p.ai[j]!.Locks[k]!).Kind≠5∨p.ai[j]!.Kind=5 then 3 else 0)=0
  cases hh:iU p p.ai[j]!.Locks[k]! with
  | false=>rw [hh,if_pos rfl] at he;exact absurd he (by decide)
  | true=>rw [hh] at he;rw [Y7 hh];exact he
 rw [e1,e3,e4,e5,e6];rfl
theorem Eh.set {p:GPermitPlan} (h:Eh p):Eh (tq p):=⟨h.s,h.x,by rw [FC];exact h.m,h.n,fun y hy=>by
 obtain ⟨z,hz,rfl⟩:=List.mem_map.1 (show y ∈ p.ai.map Et from hy)
 exact h.l z hz⟩
theorem U8 {p:GPermitPlan}:∀ x ∈ (tq p).ai,x.From=0∧x.To=100:=fun x hx=>by
 obtain ⟨z,hz,rfl⟩:=List.mem_map.1 (show x ∈ p.ai.map Et from hx)
 exact ⟨rfl,rfl⟩
theorem EU {p:GPermitPlan} {A:AO} (hli:∀ x ∈ p.ai,stA A x.Name≤3→A.now<(A.es x.Name).yB) (hun:∀ x ∈ p.ai,stA A x.Name=2→uY p A x=false):dP p A=A:=by
  have h1:(qg p A).es=A.es:=by
    funext s
    cases hs:iU p s with
    | false=>show (bif iU p s then _ else A.es s)=_;rw [hs];rfl
    | true =>
      obtain ⟨hx,hn⟩:=nN hs
      rw [DX hs]
      rcases wO (t:=A.now) (e:=A.es s) with ⟨h2,h3,_⟩ | ⟨_,h3⟩
      · have := hli _ hx (by rw [hn]; exact h2)
        rw [hn] at this;omega
      · exact h3
  have e1:qg p A=A:=by show ({ A with es:=(qg p A).es }:AO)=A;rw [h1]
  have h2:(uO p A).es=A.es:=by
    funext s
    rw [ET]
    cases hs:iU p s with
    | false=>rfl
    | true =>
      obtain ⟨hx,hn⟩:=nN hs
      by_cases h2:stA A s=2
      · rw [hun _ hx (by rw [hn];exact h2),Bool.and_false];rfl
      · rw [dF h2,Bool.and_false];rfl
  unfold dP
  rw [e1]
  show ({ A with es:=(uO p A).es }:AO)=A
  rw [h2]
theorem Um {A:AO} {n s:Str} {k:Int}:((Ii A n k).es s).yB=(A.es s).yB∧((Ii A n k).es s).BD=(A.es s).BD:=by
 show (bif decide (s=n) then ({ A.es n with state:=k }:af) else A.es s).yB=_∧(bif decide (s=n) then ({ A.es n with state:=k }:af) else A.es s).BD=_
 by_cases h:s=n
 ·rw [dT h,h];exact ⟨rfl,rfl⟩
 ·rw [dF h];exact ⟨rfl,rfl⟩
theorem Vq {p:GPermitPlan} (ho:FB p) {x:aA} (hx:x ∈ p.ai) {s:Str} (hs:s ∈ C9 p x):xg p s=true:=by
 have hsp:=(ho.pk x hx).2.2.2.2
 unfold C9 at hs
 rcases List.mem_append.1 hs with hs | hs
 ·cases hb:(Ej x&&(yA p x.Space).dS) with
  | false=>rw [hb] at hs;cases hs
  | true =>
   rw [hb,lJ,List.mem_singleton] at hs
   rw [hs,(QM hsp).2];exact hsp
 ·cases hb:decide (x.Kind=0) with
  | false=>rw [hb] at hs;cases hs
  | true =>
   rw [hb,lJ,List.mem_map] at hs
   obtain ⟨y,hy,rfl⟩:=hs
   exact XL.2 ⟨y,(List.mem_filter.1 hy).1,rfl⟩
def Jc:Str:=[97,110,110]
def bobS:Str:=[98,111,98]
structure Wt (p:GPermitPlan) (S:Str→Bool) (A:AO):Prop where
 now:A.now=0
 pp:A.pp=[]
 jA:∀ s,xg p s=true→A.ts s=some ⟨0,209,0⟩
 op:∀ x ∈ p.ai,(stA A x.Name=2↔S x.Name=true)
 to:∀ x ∈ p.ai,(A.es x.Name).yB=100
 byA:∀ x ∈ p.ai,(A.es x.Name).BD=Jc
theorem XM {A:AO} (h:A.now=0):({ A with now:=0 }:AO)=A:=by
 cases A;simp at h;simp [h]
theorem O1 {p:GPermitPlan} {A:AO} {x:aU} (hn:A.now=0) (hs:dP p A=A) (h1:x.At=0) (h2:0≤x.Op) (h3:x.Op<12):xA p A x=(let r:=Bc p A x;bif decide (r.2.2=0) then ({ dP p r.1 with done:=A.done ++ [x] },[],0) else r):=by
 unfold xA
 rw [h1,hn,dF (by omega:¬ x.Op<0),dF (by omega:¬ 12≤x.Op),dF (by decide:¬ (0:Int)<0),dF (by decide:¬ (1000000:Int)<0),XM hn,hs]
 rfl
section
variable {p:GPermitPlan} (ho:FB p) (hF:∀ x ∈ p.ai,x.From=0∧x.To=100)
include ho in
theorem Wt.lack {S:Str→Bool} {A:AO} (h:Wt p S A) {x:aA} (hx:x ∈ p.ai):BM p A x=[]:=by
 unfold BM
 rw [List.filter_eq_nil_iff]
 intro s hs
 have ha:=h.jA s (Vq ho hx hs)
 have hg:=ho.gm.1
 have:Ei p A x s=true:=by
  unfold Ei QG QH
  rw [ha,h.now]
  have e:decide ((0:Int) - (0:Int)≤p.dw)=true:=dT (by omega)
  cases decide (x.Kind=0) <;> cases !(yA p s).dS <;> first | rfl | (show (decide ((0:Int) - (0:Int)≤p.dw)&&true&&true&&true)=true;rw [e];rfl) | (show (decide ((0:Int) - (0:Int)≤p.dw)&&true&&true&&true&&true)=true;rw [e];rfl)
 rw [this];decide
include ho in
theorem Wt.bad {S:Str→Bool} {A:AO} (h:Wt p S A) {x:aA} (hx:x ∈ p.ai) (hl:∀ k ∈ x.Locks,stA A k=2):uY p A x=false:=by
 unfold uY
 rw [h.lack ho hx,J4.2 hl];rfl
include ho hF in
theorem Wt.why {S:Str→Bool} {A:AO} (h:Wt p S A) {x:aA} (hx:x ∈ p.ai):FQ p A x=(bif !(Dc A x).isEmpty then [(⟨18,Dc A x⟩:bP)] else []) ++ (bif !(mr p A fun y=>oW p y x).isEmpty then [(⟨20,mr p A fun y=>oW p y x⟩:bP)] else []):=by
 unfold FQ
 rw [h.now,(hF x hx).1,h.lack ho hx]
 have hpp:∀ f,zo A f=[]:=fun f=>by unfold zo;rw [h.pp];rfl
 simp only [hpp]
 rw [show decide ((0:Int)<0)=false from rfl,kC,List.nil_append,List.filter_append]
 have e2:(bif decide (x.Kind=3) then [(⟨17,[]⟩:bP)] else []).filter (fun r=>!r.Names.isEmpty)=[]:=by cases decide (x.Kind=3) <;> rfl
 rw [e2,List.append_nil,List.filter_cons,List.filter_cons,List.filter_cons]
 simp only []
 cases h1:(Dc A x).isEmpty <;> cases h2:(mr p A fun y=>oW p y x).isEmpty <;> simp [h1,h2]
include ho hF in
theorem Wt.open {S:Str→Bool} {A:AO} (h:Wt p S A) (hi:I8 p A) {x:aA} (hx:x ∈ p.ai) (h1:stA A x.Name=1) {e:aU} (e1:e.At=0) (e2:e.Op=2) (e3:e.Name=x.Name) (e4:e.Person=bobS) :
    ((∀ k ∈ x.Locks,stA A k=2)∧(∀ y ∈ p.ai,stA A y.Name=2→oW p y x=false)→xA p A e=({ Ii A x.Name 2 with done:=A.done ++ [e] },[],0)∧Wt p (fun s=>S s||decide (s=x.Name)) { Ii A x.Name 2 with done:=A.done ++ [e] }) ∧
    (¬ ((∀ k ∈ x.Locks,stA A k=2)∧(∀ y ∈ p.ai,stA A y.Name=2→oW p y x=false))→(xA p A e).1=A∧(xA p A e).2.2≠0):=by
  have hh:iU p x.Name=true:=uN.2 ⟨x,hx,rfl⟩
  have hat:=ho.xH hx
  have hact:Bc p A e=match FQ p A x with | r :: _=>uq A r.Err r.Names | []=>Bd (Ii A x.Name 2):=by
    unfold Bc
    rw [e2,e3]
    show (bif !iU p x.Name then uq A 6 [] else bif ![1].contains (stA A x.Name) then uq A 18 [] else yH p A e)=_
    rw [hh,h1]
    show yH p A e=_
    unfold yH
    rw [e2]
    show zH p A e=_
    unfold zH
    rw [e3,e4,hat,h.byA x hx]
    rfl
  have hw:=h.why ho hF hx
  rw [O1 h.now (settled hi) e1 (by omega) (by omega),hact]
  constructor
  · rintro ⟨c1,c2⟩
    have hn:FQ p A x=[]:=by
      rw [hw,J4.2 c1]
      have:mr p A (fun y=>oW p y x)=[]:=by
        unfold mr
        rw [List.filter_eq_nil_iff.2 fun y hy q=>?_];rfl
        rw [Bool.and_eq_true,decide_eq_true_eq] at q
        have q2:oW p y x=true:=q.2
        rw [c2 y hy q.1] at q2;cases q2
      rw [this];rfl
    have hW':Wt p (fun s=>S s||decide (s=x.Name)) (Ii A x.Name 2):=by
      refine ⟨h.now,h.pp,h.jA,fun y hy=>?_,fun y hy=>by rw [Um.1];exact h.to y hy,fun y hy=>by rw [Um.2];exact h.byA y hy⟩
      rw [FY,Bool.or_eq_true,decide_eq_true_eq,← h.op y hy]
      by_cases hyx:y.Name=x.Name
      · rw [if_pos hyx];exact ⟨fun _=>.inr hyx,fun _=>rfl⟩
      · rw [if_neg hyx];exact ⟨.inl,fun q=>q.elim id fun q=>absurd q hyx⟩
    have hset:dP p (Ii A x.Name 2)=Ii A x.Name 2:=by
      refine EU (fun y hy _=>?_) fun y hy h2=>?_
      · rw [hW'.to y hy];show A.now<100;rw [h.now];decide
      · refine hW'.bad ho hy fun k hk => ?_
        have:stA A k=2:=by
          by_cases hyx:y.Name=x.Name
          · have : y = x := by rw [← ho.xH hy, ← ho.xH hx, hyx]
            subst this;exact c1 k hk
          · rw [FY,if_neg hyx] at h2
            exact (NP hi hy h2).1 k hk
        rw [FY]
        by_cases hkx:k=x.Name
        · rw [if_pos hkx]
        · rw [if_neg hkx];exact this
    rw [hn]
    refine ⟨?_,⟨hW'.now,hW'.pp,hW'.jA,hW'.op,hW'.to,hW'.byA⟩⟩
    show (({ dP p (Ii A x.Name 2) with done:=A.done ++ [e] }:AO),([]:List Str),(0:Int))=_
    rw [hset]
  · intro hc
    have hn:∃ r l,FQ p A x=r :: l∧r.Err≠0:=by
      rw [hw]
      cases g1:(Dc A x).isEmpty with
      | false=>exact ⟨_,_,rfl,show (18:Int)≠0 by decide⟩
      | true =>
        cases g2:(mr p A fun y=>oW p y x).isEmpty with
        | false=>exact ⟨_,_,rfl,show (20:Int)≠0 by decide⟩
        | true =>
          refine absurd ⟨J4.1 g1,fun y hy h2=>?_⟩ hc
          cases hq:oW p y x with
          | false=>rfl
          | true =>
            rw [List.isEmpty_iff] at g2
            have:y.Name ∈ mr p A fun y=>oW p y x:=XA.2 ⟨y,hy,rfl,h2,hq⟩
            rw [g2] at this;cases this
    obtain ⟨r,l,hr,hre⟩:=hn
    rw [hr]
    show (bif decide (r.Err=0) then _ else uq A r.Err r.Names).1=A∧(bif decide (r.Err=0) then _ else uq A r.Err r.Names).2.2≠0
    rw [dF hre]
    exact ⟨rfl,hre⟩
include ho in
theorem Wt.suspend {S:Str→Bool} {A:AO} (h:Wt p S A) (hi:I8 p A) {x:aA} (hx:x ∈ p.ai) (h2:stA A x.Name=2) (hl:∀ y ∈ p.ai,stA A y.Name=2→y.Name≠x.Name→x.Name ∉ y.Locks) {e:aU} (e1:e.At=0) (e2:e.Op=3) (e3:e.Name=x.Name) :
    xA p A e=({ Ii A x.Name 3 with done:=A.done ++ [e] },[],0)∧Wt p (fun s=>S s && !decide (s=x.Name)) { Ii A x.Name 3 with done:=A.done ++ [e] }:=by
  have hh:iU p x.Name=true:=uN.2 ⟨x,hx,rfl⟩
  have hact:Bc p A e=Bd (Ii A x.Name 3):=by
    unfold Bc
    rw [e2,e3]
    show (bif !iU p x.Name then uq A 6 [] else bif ![2].contains (stA A x.Name) then uq A 18 [] else yH p A e)=_
    rw [hh,h2]
    show yH p A e=_
    unfold yH
    rw [e2,e3];rfl
  have hW':Wt p (fun s=>S s && !decide (s=x.Name)) (Ii A x.Name 3):=by
    refine ⟨h.now,h.pp,h.jA,fun y hy=>?_,fun y hy=>by rw [Um.1];exact h.to y hy,fun y hy=>by rw [Um.2];exact h.byA y hy⟩
    rw [FY,Bool.and_eq_true,Bool.not_eq_true',decide_eq_false_iff_not,← h.op y hy]
    by_cases hyx:y.Name=x.Name
    · rw [if_pos hyx];exact ⟨fun q=>absurd q (by decide),fun q=>absurd hyx q.2⟩
    · rw [if_neg hyx];exact ⟨fun q=>⟨q,hyx⟩,fun q=>q.1⟩
  have hset:dP p (Ii A x.Name 3)=Ii A x.Name 3:=by
    refine EU (fun y hy _=>?_) fun y hy g2=>?_
    · rw [hW'.to y hy];show A.now<100;rw [h.now];decide
    · refine hW'.bad ho hy fun k hk => ?_
      by_cases hyx:y.Name=x.Name
      · rw [FY,if_pos hyx] at g2;exact absurd g2 (by decide)
      · rw [FY,if_neg hyx] at g2
        rw [FY,if_neg (fun q=>hl y hy g2 hyx (by rw [← q];exact hk))]
        exact (NP hi hy g2).1 k hk
  rw [O1 h.now (settled hi) e1 (by omega) (by omega),hact]
  refine ⟨?_,⟨hW'.now,hW'.pp,hW'.jA,hW'.op,hW'.to,hW'.byA⟩⟩
  show (({ dP p (Ii A x.Name 3) with done:=A.done ++ [e] }:AO),([]:List Str),(0:Int))=_
  rw [hset]
structure Wg (p:GPermitPlan) (i:Nat) (A:AO):Prop where
 now:A.now=0
 pp:A.pp=[]
 jA:∀ j,j<i→j<p.bF.length→A.ts p.bF[j]!.Name=some ⟨0,209,0⟩
 st:∀ x ∈ p.ai,stA A x.Name=0
 to:∀ x ∈ p.ai,(A.es x.Name).yB=100
theorem Wg.step {i:Nat} {A:AO} (h:Wg p i A) (hi:I8 p A) (hs:i<p.bF.length) {e:aU} (e1:e.At=0) (e2:e.Op=7) (e3:e.Space=p.bF[i]!.Name) (e4:e.vN=209) (e5:e.Pq=0) :
  (xA p A e).2.2=0∧Wg p (i+1) (xA p A e).1:=by
 have hh:xg p p.bF[i]!.Name=true:=by
  unfold xg
  rw [List.any_eq_true]
  exact ⟨p.bF[i]!,by rw [wC hs];exact List.getElem_mem _,by unfold isS;rw [decide_eq_true_eq]⟩
 have hact:Bc p A e=Bd { A with ts:=fun s=>bif decide (s=p.bF[i]!.Name) then some ⟨A.now,209,0⟩ else A.ts s }:=by
  unfold Bc
  rw [e2]
  show yH p A e=_
  unfold yH
  rw [e2]
  show Vr p A e=_
  unfold Vr
  rw [e3,e4,e5,hh];rfl
 have hset:dP p { A with ts:=fun s=>bif decide (s=p.bF[i]!.Name) then some ⟨A.now,209,0⟩ else A.ts s }={ A with ts:=fun s=>bif decide (s=p.bF[i]!.Name) then some ⟨A.now,209,0⟩ else A.ts s } :=
  EU (fun y hy _=>by show A.now<(A.es y.Name).yB;rw [h.now,h.to y hy];decide) fun y hy h2=>by
   have:stA A y.Name=2:=h2
   rw [h.st y hy] at this;exact absurd this (by decide)
 rw [O1 h.now (settled hi) e1 (by omega) (by omega),hact]
 refine ⟨rfl,?_⟩
 show Wg p (i+1) { dP p { A with ts:=fun s=>bif decide (s=p.bF[i]!.Name) then some ⟨A.now,209,0⟩ else A.ts s } with done:=A.done ++ [e] }
 rw [hset]
 refine ⟨h.now,h.pp,fun j hj hjl=>?_,h.st,h.to⟩
 show (bif decide (p.bF[j]!.Name=p.bF[i]!.Name) then some (⟨A.now,209,0⟩:aj) else A.ts p.bF[j]!.Name)=_
 by_cases hn:p.bF[j]!.Name=p.bF[i]!.Name
 ·rw [dT hn,h.now];rfl
 ·rw [dF hn]
  refine h.jA j ?_ hjl
  by_cases hji:j=i
  ·subst hji;exact absurd rfl hn
  ·omega
structure Wa (p:GPermitPlan) (i:Nat) (A:AO):Prop where
 now:A.now=0
 pp:A.pp=[]
 jA:∀ s,xg p s=true→A.ts s=some ⟨0,209,0⟩
 st0:∀ j,i≤j→j<p.ai.length→stA A p.ai[j]!.Name=0
 st1:∀ j,j<i→j<p.ai.length→stA A p.ai[j]!.Name=1∧(A.es p.ai[j]!.Name).BD=Jc
 to:∀ x ∈ p.ai,(A.es x.Name).yB=100
theorem Wg.fin {A:AO} (h:Wg p p.bF.length A):Wa p 0 A:=⟨h.now,h.pp,fun s hs=>by
 unfold xg at hs
 rw [List.any_eq_true] at hs
 obtain ⟨y,hy,hn⟩:=hs
 obtain ⟨j,hj,rfl⟩:=List.getElem_of_mem hy
 unfold isS at hn
 rw [decide_eq_true_eq] at hn
 have:=h.jA j hj hj
 rw [wC hj,hn] at this;exact this,fun j _ hj=>h.st _ (by rw [wC hj];exact List.getElem_mem _),fun j hj=>by omega,h.to⟩
include ho in
theorem Wa.step {i:Nat} {A:AO} (h:Wa p i A) (hi:I8 p A) (hs:i<p.ai.length) {e:aU} (e1:e.At=0) (e2:e.Op=1) (e3:e.Name=p.ai[i]!.Name) (e4:e.Person=Jc) :
  (xA p A e).2.2=0∧Wa p (i+1) (xA p A e).1:=by
 have hx:p.ai[i]! ∈ p.ai:=by rw [wC hs];exact List.getElem_mem _
 have hh:iU p p.ai[i]!.Name=true:=uN.2 ⟨_,hx,rfl⟩
 have h0:=h.st0 i (Nat.le_refl _) hs
 have hact:Bc p A e=Bd (NS A p.ai[i]!.Name { A.es p.ai[i]!.Name with state:=1,BD:=Jc }):=by
  unfold Bc
  rw [e2,e3]
  show (bif !iU p p.ai[i]!.Name then uq A 6 [] else bif ![0].contains (stA A p.ai[i]!.Name) then uq A 18 [] else yH p A e)=_
  rw [hh,h0]
  show yH p A e=_
  unfold yH
  rw [e2]
  show Df A e=_
  unfold Df
  rw [e3,e4];rfl
 have hst:∀ s,stA (NS A p.ai[i]!.Name { A.es p.ai[i]!.Name with state:=1,BD:=Jc }) s=if s=p.ai[i]!.Name then 1 else stA A s:=fun s=>JB
 have hes:∀ s,(NS A p.ai[i]!.Name { A.es p.ai[i]!.Name with state:=1,BD:=Jc }).es s=if s=p.ai[i]!.Name then { A.es p.ai[i]!.Name with state:=1,BD:=Jc } else A.es s:=fun s=>XO
 have hto:∀ y ∈ p.ai,((NS A p.ai[i]!.Name { A.es p.ai[i]!.Name with state:=1,BD:=Jc }).es y.Name).yB=100:=fun y hy=>by
  rw [hes]
  split
  ·exact h.to _ hx
  ·exact h.to y hy
 have hset:dP p (NS A p.ai[i]!.Name { A.es p.ai[i]!.Name with state:=1,BD:=Jc })=NS A p.ai[i]!.Name { A.es p.ai[i]!.Name with state:=1,BD:=Jc } :=
  EU (fun y hy _=>by rw [hto y hy];show A.now<100;rw [h.now];decide) fun y hy h2=>by
   rw [hst] at h2
   split at h2
   ·exact absurd h2 (by decide)
   ·obtain ⟨j,hj,rfl⟩:=List.getElem_of_mem hy
    rw [← wC hj] at h2
    by_cases hji:j<i
    ·rw [(h.st1 j hji hj).1] at h2;exact absurd h2 (by decide)
    ·rw [h.st0 j (by omega) hj] at h2;exact absurd h2 (by decide)
 rw [O1 h.now (settled hi) e1 (by omega) (by omega),hact]
 refine ⟨rfl,?_⟩
 show Wa p (i+1) { dP p (NS A p.ai[i]!.Name { A.es p.ai[i]!.Name with state:=1,BD:=Jc }) with done:=A.done ++ [e] }
 rw [hset]
 have hne:∀ j,j<p.ai.length→j≠i→p.ai[j]!.Name≠p.ai[i]!.Name:=fun j hj hji q=>hji (ho.pd j i hj hs q)
 refine ⟨h.now,h.pp,h.jA,fun j hj hjl=>?_,fun j hj hjl=>?_,hto⟩
 ·show stA (NS A p.ai[i]!.Name _) _=0
  rw [hst,if_neg (hne j hjl (by omega))];exact h.st0 j (by omega) hjl
 ·show stA (NS A p.ai[i]!.Name _) _=1∧((NS A p.ai[i]!.Name _).es _).BD=Jc
  rw [hst,hes]
  by_cases hji:j=i
  ·subst hji;rw [if_pos rfl,if_pos rfl];exact ⟨rfl,rfl⟩
  ·rw [if_neg (hne j hjl hji),if_neg (hne j hjl hji)];exact h.st1 j (by omega) hjl
theorem Wa.fin {A:AO} (h:Wa p p.ai.length A):Wt p (fun _=>false) A∧∀ x ∈ p.ai,stA A x.Name=1:=by
 have h1:∀ x ∈ p.ai,stA A x.Name=1∧(A.es x.Name).BD=Jc:=fun x hx=>by
  obtain ⟨j,hj,rfl⟩:=List.getElem_of_mem hx
  have:=h.st1 j hj hj
  rw [wC hj] at this;exact this
 exact ⟨⟨h.now,h.pp,h.jA,fun x hx=>by rw [(h1 x hx).1];exact ⟨fun q=>absurd q (by decide),fun q=>by cases q⟩,h.to,fun x hx=>(h1 x hx).2⟩,fun x hx=>(h1 x hx).1⟩
include hF in
theorem Wg.new:Wg p 0 (Lr p):=by
 have e:dP p ⟨0,fun s=>bif iU p s then ⟨0,[],(nR p s).To⟩ else ⟨0,[],0⟩,fun _=>none,[],[]⟩=⟨0,fun s=>bif iU p s then ⟨0,[],(nR p s).To⟩ else ⟨0,[],0⟩,fun _=>none,[],[]⟩:=by
  refine EU (fun y hy _=>?_) fun y hy h2=>?_
  ·have hh:iU p y.Name=true:=uN.2 ⟨y,hy,rfl⟩
   show (0:Int)<(bif iU p y.Name then (⟨0,[],(nR p y.Name).To⟩:af) else ⟨0,[],0⟩).yB
   rw [hh,lJ,(hF _ (nN hh).1).2];decide
  ·have:(bif iU p y.Name then (⟨0,[],(nR p y.Name).To⟩:af) else ⟨0,[],0⟩).state=2:=h2
   cases hq:iU p y.Name <;> rw [hq] at this <;> exact absurd (show (0:Int)=2 from this) (by decide)
 unfold Lr
 rw [e]
 refine ⟨rfl,rfl,fun j hj=>by omega,fun x hx=>?_,fun x hx=>?_⟩
 ·show (bif iU p x.Name then (⟨0,[],(nR p x.Name).To⟩:af) else ⟨0,[],0⟩).state=0
  cases iU p x.Name <;> rfl
 ·have hh:iU p x.Name=true:=uN.2 ⟨x,hx,rfl⟩
  show (bif iU p x.Name then (⟨0,[],(nR p x.Name).To⟩:af) else ⟨0,[],0⟩).yB=100
  rw [hh,lJ,(hF _ (nN hh).1).2]
end
end Go.KB
