/- Plain laws of chapter 7: the open permits are a possible set. Replay: the office behind the events up to the first one that is refused. Settling twice; the office in which the events that are refused are left out. No condition. -/
import Derived.Test.YtalkbgomndhkmaaGreatPZo
import Derived.Test.YtalkbgomndhkmaaGreatPZp
namespace Go.KB
set_option linter.unusedVariables false
theorem NH {e:Nat→Int}:∀ {k i:Nat},(∀ j,i≤j→j<i+k→e j=0)→fE e k i=0:=fun {k i} h=>by
 rw [J8 (e':=fun _=>0) (fun j h1 h2 _=>h j h1 h2)];exact NI
theorem O9 {p:GPermitPlan} (ho:EX p):(p.aB.map fun x=>x.Name).Nodup:=by
 unfold List.Nodup
 rw [List.pairwise_iff_getElem]
 intro i j hi hj hij he
 rw [List.length_map] at hi hj
 rw [List.getElem_map,List.getElem_map] at he
 have:=ho.pd i j hi hj (by rw [Dw hi,Dw hj];exact he)
 omega
theorem Cc {p:GPermitPlan} {A:AO} {so:aG→Bool} {s:Str}:s ∈ kD p A so↔∃ x ∈ p.aB,x.Name=s∧stA A s=2∧so x=true:=by
 unfold kD
 rw [List.mem_map]
 constructor
 ·rintro ⟨x,hx,rfl⟩
  obtain ⟨h1,h2⟩:=List.mem_filter.1 hx
  rw [Bool.and_eq_true,decide_eq_true_eq] at h2
  exact ⟨x,h1,rfl,h2⟩
 ·rintro ⟨x,h1,rfl,h2,h3⟩
  exact ⟨x,List.mem_filter.2 ⟨h1,by rw [h3,dT h2];rfl⟩,rfl⟩
theorem QL {p:GPermitPlan} (ho:EX p) {A:AO} {so:aG→Bool}:(kD p A so).Nodup:=by
 unfold kD
 exact (O9 ho).sublist (List.filter_sublist.map _)
theorem Gz {p:GPermitPlan} {A:AO} {so:aG→Bool}:(kD p A so).length≤p.aB.length:=by
 unfold kD;rw [List.length_map];exact List.length_filter_le _ _
theorem QM {p:GPermitPlan} {l:List Str} (h1:∀ s ∈ l,kH p s=true) (h2:l.Nodup):RU p l=0:=by
 refine NH fun j _ hj=>?_
 have hj':j<l.length:=by omega
 unfold eC
 rw [Dw hj',if_neg (by rw [h1 _ (List.getElem_mem hj')];simp),if_neg]
 rw [RV]
 intro hm
 obtain ⟨i,hi,he⟩:=List.mem_take_iff_getElem.1 hm
 have h3:=(List.pairwise_iff_getElem.1 h2) i j (by omega) hj' (by omega)
 exact h3 he
theorem TP {p:GPermitPlan} {A:AO} (hi:IK p A) {x:aG} (hx:x ∈ p.aB) (h2:stA A x.Name=2):(∀ k ∈ x.Locks,stA A k=2)∧∀ s ∈ En p x,Fa p A x s=true:=by
 have hb:=hi.un x hx h2
 unfold vz at hb
 rw [Bool.or_eq_false_iff,Bool.not_eq_false',Bool.not_eq_false',List.isEmpty_iff,List.isEmpty_iff] at hb
 constructor
 ·intro k hk
  have:=List.filter_eq_nil_iff.1 hb.2 k hk
  simpa using this
 ·intro s hs
  have:=List.filter_eq_nil_iff.1 hb.1 s hs
  simpa using this
theorem TQ {p:GPermitPlan} (ho:EX p) {A:AO} (hi:IK p A) {so:aG→Bool} (hso:∀ x ∈ p.aB,∀ k ∈ x.Locks,stA A x.Name=2→so x=true→so (qo p k)=true):Ir p ((kD p A so).map (qo p))=true:=by
 have hmem:∀ x ∈ (kD p A so).map (qo p),x ∈ p.aB∧stA A x.Name=2∧so x=true:=by
  intro x hx
  obtain ⟨s,hs,rfl⟩:=List.mem_map.1 hx
  obtain ⟨y,hy,rfl,h2,h3⟩:=Cc.1 hs
  rw [ho.FP hy];exact ⟨hy,h2,h3⟩
 rw [TR]
 refine ⟨fun x hx y hy=>?_,fun x hx k hk=>?_⟩
 ·obtain ⟨a1,a2,_⟩:=hmem x hx
  obtain ⟨b1,b2,_⟩:=hmem y hy
  exact hi.w.ex x a1 y b1 a2 b2
 ·obtain ⟨a1,a2,a3⟩:=hmem x hx
  have hk2:=(TP hi a1 a2).1 k hk
  have hh:=(ho.lk x a1 k hk).1
  obtain ⟨c1,c2⟩:=uP hh
  exact ⟨qo p k,List.mem_map.2 ⟨k,Cc.2 ⟨qo p k,c1,c2,hk2,hso x a1 k hk a2 a3⟩,rfl⟩,c2⟩
theorem Hy {p:GPermitPlan} (hc:qf p=0) {A:AO} (hi:IK p A):RX p (kD p A fun _=>true)=(true,0):=by
 have ho:=okP hc
 have hz:=QM (p:=p) (l:=kD p A fun _=>true) (fun s hs=>by
  obtain ⟨x,hx,rfl,_⟩:=Cc.1 hs
  exact yR.2 ⟨x,hx,rfl⟩) (QL ho)
 unfold RX
 rw [if_neg (by simp [hc]),if_pos hz,TQ ho hi (fun _ _ _ _ _ _=>rfl)]
end Go.KB
namespace Go.KB
set_option linter.unusedVariables false
def qh (p:GPermitPlan):AO→List GEvent→AO×Nat×Int
 | A,[]=>(A,0,0)
 | A,x :: r=>bif decide ((wu p A x).2.2=0) then ((qh p (wu p A x).1 r).1,(qh p (wu p A x).1 r).2.1+1,(qh p (wu p A x).1 r).2.2) else (A,0,(wu p A x).2.2)
theorem Eo {p:GPermitPlan} {A:AO} {x:GEvent} {r:List GEvent} (h:(wu p A x).2.2=0):qh p A (x :: r)=((qh p (wu p A x).1 r).1,(qh p (wu p A x).1 r).2.1+1,(qh p (wu p A x).1 r).2.2):=by
 show (bif decide ((wu p A x).2.2=0) then _ else _)=_
 rw [dT h];rfl
theorem J9 {p:GPermitPlan} {A:AO} {x:GEvent} {r:List GEvent} (h:(wu p A x).2.2≠0):qh p A (x :: r)=(A,0,(wu p A x).2.2):=by
 show (bif decide ((wu p A x).2.2=0) then _ else _)=_
 rw [dF h];rfl
theorem VD {p:GPermitPlan} {A:AO} {x:GEvent} (h:(wu p A x).2.2=0):(wu p A x).1.done=A.done ++ [x]:=by
 unfold wu at h ⊢
 cases h1:(decide (x.Op<0)||decide (12≤x.Op)||decide (x.At<0)||decide (1000000<x.At)) with
 | true=>rw [h1] at h;exact absurd (show (2:Int)=0 from h) (by decide)
 | false =>
  rw [h1] at h
  rw [lI] at h ⊢
  cases h2:decide (x.At<A.now) with
  | true=>rw [h2] at h;exact absurd (show (10:Int)=0 from h) (by decide)
  | false =>
   rw [h2] at h
   rw [lI] at h ⊢
   simp only [] at h ⊢
   by_cases h3:(Ep p (eX p { A with now:=x.At }) x).2.2=0
   ·rw [dT h3];rfl
   ·rw [dF h3] at h;exact absurd h h3
theorem J7 {p:GPermitPlan}:∀ {r:List GEvent} {A:AO},(qh p A r).2.1≤r.length∧(qh p A r).1.done=A.done ++ r.take (qh p A r).2.1∧((qh p A r).2.2=0→(qh p A r).2.1=r.length):=by
 intro r
 induction r with
 | nil=>intro A;exact ⟨Nat.le_refl _,by show A.done=_;simp [qh],fun _=>rfl⟩
 | cons x r ih =>
  intro A
  by_cases h:(wu p A x).2.2=0
  ·obtain ⟨i1,i2,i3⟩:=ih (A:=(wu p A x).1)
   rw [Eo h]
   refine ⟨by simp only [List.length_cons];omega,?_,fun he=>by simp only [List.length_cons];rw [i3 he]⟩
   simp only []
   rw [i2,VD h,List.append_assoc];rfl
  ·rw [J9 h]
   exact ⟨Nat.zero_le _,by simp,fun he=>absurd he h⟩
theorem QN {N:Nat} {g:af} {st:List (Str×ah)} {lH:List (Str×ai)} {pe:List (Str×Str)} (hl:g.done.length<1000000):kU N g st lH pe=some (some (g,st,lH,pe),()):=by
 have hlim:lim ≥ 10000000:=by decide
 unfold kU iV
 rw [FN (by simp only [List.length_nil];omega)];rfl
theorem Pg {N:Nat} {p:GPermitPlan} (hp:EP p) (ho:EX p) (hN:1000000≤N) {l:List GEvent} (hl:l.length<1000):∀ (d i:Nat) (A:AO) (g:af) (st:List (Str×ah)) (lH:List (Str×ai)) (pe:List (Str×Str)) (M:Nat),i+d=l.length→d<M→J4 p i A g st lH pe →
    ∃ g' st' Ai J6,J4 p (i+(qh p A (l.drop i)).2.1) (qh p A (l.drop i)).1 g' st' Ai J6∧dB (jl N l) M ((i:Int),g,st,lH,pe)=some (bif decide ((qh p A (l.drop i)).2.2=0) then Sum.inl (g',st',Ai,J6) else Sum.inr (some (g',st',Ai,J6),((i+(qh p A (l.drop i)).2.1:Nat):Int),(qh p A (l.drop i)).2.2)):=by
  intro d
  induction d with
  | zero =>
    intro i A g st lH pe M hi hM h
    obtain ⟨M,rfl⟩:∃ m,M=m+1:=⟨M - 1,by omega⟩
    rw [List.drop_of_length_le (by omega)]
    refine ⟨g,st,lH,pe,h,?_⟩
    have e:jl N l ((i:Int),g,st,lH,pe)=some (.inr (Sum.inl (g,st,lH,pe))):=by
      unfold jl
      simp only []
      rw [bT,dF (by omega),lI]
    rw [dB,e];rfl
  | succ d ih =>
    intro i A g st lH pe M hi hM h
    obtain ⟨M,rfl⟩:∃ m,M=m+1:=⟨M - 1,by omega⟩
    have hlt:i<l.length:=by omega
    obtain ⟨g1,st1,air1,pe1,hd,h1⟩:=QJ hp ho hN h (by omega) l[i]
    have hcl:kU N g st lH pe=some (some (g,st,lH,pe),()):=QN (by rw [h.rel.done];have:=h.len;omega)
    rw [List.drop_eq_getElem_cons hlt]
    by_cases h0:(wu p A l[i]).2.2=0
    · have e:jl N l ((i:Int),g,st,lH,pe)=some (.inl (((i+1:Nat):Int),g1,st1,air1,pe1)):=by
        unfold jl
        simp only []
        rw [bT,dT (by omega),nC,iU hlt,bS,hcl,bS]
        simp only [Aa]
        rw [hd,bS]
        simp only []
        rw [h0,ru,dT rfl,qy (by omega)];rfl
      rw [dB,e,Eo h0]
      obtain ⟨g',st',Ai,J6,h2,h3⟩:=ih (i+1) _ g1 st1 air1 pe1 M (by omega) (by omega) h1
      refine ⟨g',st',Ai,J6,?_,?_⟩
      · have e2 : i + 1 + (qh p (wu p A l[i]).1 (List.drop (i + 1) l)).2.1 = i + ((qh p (wu p A l[i]).1 (List.drop (i + 1) l)).2.1 + 1) := by omega
        rw [← e2];exact h2
      · have e2 : i + 1 + (qh p (wu p A l[i]).1 (List.drop (i + 1) l)).2.1 = i + ((qh p (wu p A l[i]).1 (List.drop (i + 1) l)).2.1 + 1) := by omega
        rw [e2] at h3;exact h3
    · have e:jl N l ((i:Int),g,st,lH,pe)=some (.inr (Sum.inr (some (g,st,lH,pe),(i:Int),(wu p A l[i]).2.2))):=by
        unfold jl
        simp only []
        rw [bT,dT (by omega),nC,iU hlt,bS,hcl,bS]
        simp only [Aa]
        rw [hd,bS]
        simp only []
        rw [ru,dF h0];rfl
      rw [dB,e,J9 h0]
      exact ⟨g,st,lH,pe,h,by rw [dF h0];rfl⟩
theorem TN {N:Nat} {p:GPermitPlan} (hp:EP p) (hc:qf p=0) (hN:1000000≤N) {l:List GEvent} (hl:l.length<1000) :
  ∃ g st lH pe,J4 p (qh p (FO p) l).2.1 (qh p (FO p) l).1 g st lH pe∧rQ N p l=some (some (g,st,lH,pe),(((qh p (FO p) l).2.1:Nat):Int),(qh p (FO p) l).2.2):=by
 obtain ⟨st,hn,hr⟩:=RS hp hc hN
 obtain ⟨g',st',Ai,J6,h1,h2⟩:=Pg hp (okP hc) hN hl l.length 0 (FO p) _ st [] [] N (by omega) (by omega) hr
 rw [List.drop_zero,Nat.zero_add] at h1 h2
 refine ⟨g',st',Ai,J6,h1,?_⟩
 unfold rQ
 rw [hn,bS]
 simp only [Aa]
 rw [ru,dT rfl,Bool.not_true,lI]
 show (dB (jl N l) N (((0:Nat):Int),_,st,[],[])).bind _=_
 rw [h2,bS]
 by_cases h0:(qh p (FO p) l).2.2=0
 ·rw [dT h0,h0,nC,J7.2.2 h0];rfl
 ·rw [dF h0];rfl
end Go.KB
namespace Go.KB
set_option linter.unusedVariables false
theorem wQ {t:Int} {e:ah}:(e.state≤3∧e.Ap≤t∧wK t e={ e with state:=6 })∨(¬ (e.state≤3∧e.Ap≤t)∧wK t e=e):=by
 unfold wK
 by_cases h1:e.state≤3
 ·by_cases h2 : e.Ap ≤ t
  ·exact .inl ⟨h1,h2,by rw [dT h1,dT h2];rfl⟩
  ·exact .inr ⟨fun h=>h2 h.2,by rw [dT h1,dF h2];rfl⟩
 ·exact .inr ⟨fun h=>h1 h.1,by rw [dF h1];rfl⟩
theorem TS {t t':Int} (ht:t≤t') {e:ah}:wK t' (wK t e)=wK t' e:=by
 rcases wQ (t:=t) (e:=e) with ⟨h1,h2,h3⟩ | ⟨_,h3⟩
 ·rw [h3]
  rcases wQ (t:=t') (e:={ e with state:=6 }) with ⟨h4,_⟩ | ⟨_,h5⟩
  ·exact absurd (show (6:Int)≤3 from h4) (by decide)
  ·rw [h5]
   rcases wQ (t:=t') (e:=e) with ⟨_,_,h6⟩ | ⟨h6,_⟩
   ·exact h6.symm
   ·exact absurd ⟨h1,by omega⟩ h6
 ·rw [h3]
theorem Es {p:GPermitPlan} {A:AO} {s:Str} (hs:kH p s=true):(qg p A).es s=wK A.now (A.es s):=by
 show (bif kH p s then wK A.now (A.es s) else A.es s)=_
 rw [hs];rfl
theorem FQ {p:GPermitPlan} {A:AO} {s:Str}:(uQ p A).es s=bif kH p s&&decide (stA A s=2)&&vz p A (qo p s) then { A.es s with state:=3 } else A.es s:=rfl
theorem Ph {α:Type} {l:List α} {f g:α→Bool} (h:∀ x ∈ l,f x=true→g x=true) (hf:(l.filter f).isEmpty=false):(l.filter g).isEmpty=false:=by
 cases hg:(l.filter g).isEmpty with
 | false=>rfl
 | true =>
  rw [List.isEmpty_iff,List.filter_eq_nil_iff] at hg
  have:(l.filter f).isEmpty=true:=by
   rw [List.isEmpty_iff,List.filter_eq_nil_iff]
   exact fun x hx hfx=>hg x hx (h x hx hfx)
  rw [this] at hf;cases hf
theorem TT {p:GPermitPlan} {A B:AO} {x:aG} {s:Str} (ht:A.ts=B.ts) (hn:A.now≤B.now) (h:Fa p B x s=true):Fa p A x s=true:=by
 have he:∀ {q:Bool},(match B.ts s with | none=>false | some t=>decide (B.now - t.at_≤p.dN)&&decide (195≤t.ku)&&decide (t.ku≤235)&&decide (t.KW≤50))=true→(match A.ts s with | none=>false | some t=>decide (A.now - t.at_≤p.dN)&&decide (195≤t.ku)&&decide (t.ku≤235)&&decide (t.KW≤50))=true:=by
  intro _ h
  rw [ht]
  cases hb:B.ts s with
  | none=>rw [hb] at h;exact h
  | some t =>
   rw [hb] at h
   simp only [Bool.and_eq_true,decide_eq_true_eq] at h ⊢
   omega
 have hh:(match B.ts s with | none=>false | some t=>decide (B.now - t.at_≤p.dN)&&decide (195≤t.ku)&&decide (t.ku≤235)&&decide (t.KW≤50)&&decide (t.KW≤10))=true→(match A.ts s with | none=>false | some t=>decide (A.now - t.at_≤p.dN)&&decide (195≤t.ku)&&decide (t.ku≤235)&&decide (t.KW≤50)&&decide (t.KW≤10))=true:=by
  intro h
  rw [ht]
  cases hb:B.ts s with
  | none=>rw [hb] at h;exact h
  | some t =>
   rw [hb] at h
   simp only [Bool.and_eq_true,decide_eq_true_eq] at h ⊢
   omega
 unfold Fa RY RZ at h ⊢
 cases hx:decide (x.Kind=0) with
 | true =>
  rw [hx,nC] at h
  rw [nC]
  cases hq:(!(xQ p s).dX) with
  | true=>rfl
  | false=>rw [hq,lI] at h;rw [lI];exact hh h
 | false =>
  rw [hx,lI] at h
  rw [lI]
  cases hq:(!(xQ p s).dX) with
  | true=>rfl
  | false=>rw [hq,lI] at h;rw [lI];exact he (q:=true) h
theorem Lc {p:GPermitPlan} (ho:EX p) {A:AO} {t t':Int} (ht:t≤t'):eX p { eX p { A with now:=t } with now:=t' }=eX p { A with now:=t' }:=by
  have hlock:∀ l,kH p l=true→(qo p l).Kind=5→(qg p { uQ p (qg p { A with now:=t }) with now:=t' }).es l=(qg p { A with now:=t' }).es l:=fun l hl hk=>by
    rw [Es hl,Es hl]
    show wK t' ((uQ p (qg p { A with now:=t })).es l)=wK t' (A.es l)
    rw [Si ho hl hk,Es hl]
    exact TS ht
  have hbad:∀ x ∈ p.aB,vz p (qg p { uQ p (qg p { A with now:=t }) with now:=t' }) x=vz p (qg p { A with now:=t' }) x:=fun x hx=>by
    have e1:DR p (qg p { uQ p (qg p { A with now:=t }) with now:=t' }) x=DR p (qg p { A with now:=t' }) x:=rfl
    have e2:EY (qg p { uQ p (qg p { A with now:=t }) with now:=t' }) x=EY (qg p { A with now:=t' }) x:=by
      unfold EY
      refine List.filter_congr fun l hl=>?_
      obtain ⟨h1,h2,_⟩:=ho.lk x hx l hl
      unfold stA
      rw [hlock l h1 h2]
    unfold vz
    rw [e1,e2]
  have hmono:∀ x ∈ p.aB,vz p (qg p { A with now:=t }) x=true→vz p (qg p { A with now:=t' }) x=true:=fun x hx h=>by
    unfold vz at h ⊢
    rw [Bool.or_eq_true,Bool.not_eq_true',Bool.not_eq_true'] at h ⊢
    rcases h with h | h
    · refine .inl (Ph (fun s _ hs => ?_) h)
      rw [Bool.not_eq_true'] at hs ⊢
      cases hg:Fa p (qg p { A with now:=t' }) x s with
      | false=>rfl
      | true=>rw [TT (A:=qg p { A with now:=t }) (B:=qg p { A with now:=t' }) rfl ht hg] at hs;cases hs
    · refine .inr (Ph (fun l hl hs => ?_) h)
      obtain ⟨h1,h2,_⟩:=ho.lk x hx l hl
      rw [Bool.not_eq_true'] at hs ⊢
      unfold stA at hs ⊢
      rw [Es h1] at hs ⊢
      have hs:decide ((wK t (A.es l)).state=2)=false:=hs
      show decide ((wK t' (A.es l)).state=2)=false
      rw [decide_eq_false_iff_not] at hs ⊢
      rcases wQ (t:=t') (e:=A.es l) with ⟨_,_,h3⟩ | ⟨h3,h4⟩
      · rw [h3];exact (show ¬ (6:Int)=2 by decide)
      · rw [h4]
        rcases wQ (t:=t) (e:=A.es l) with ⟨h5,h6,_⟩ | ⟨_,h6⟩
        · exact absurd ⟨h5,by omega⟩ h3
        · rw [h6] at hs;exact hs
  have hes:(uQ p (qg p { uQ p (qg p { A with now:=t }) with now:=t' })).es=(uQ p (qg p { A with now:=t' })).es:=by
    funext s
    cases hs:kH p s with
    | false =>
      rw [FQ,FQ,hs]
      show (bif kH p s then _ else (uQ p (qg p { A with now:=t })).es s)=(bif kH p s then _ else A.es s)
      rw [hs,lI,lI,FQ,hs]
      show (bif kH p s then _ else A.es s)=_
      rw [hs];rfl
    | true =>
      have hx:=(uP hs).1
      have eB:(qg p { A with now:=t }).es s=wK t (A.es s):=Es hs
      have eB':(qg p { A with now:=t' }).es s=wK t' (A.es s):=Es hs
      have eC:(qg p { uQ p (qg p { A with now:=t }) with now:=t' }).es s=wK t' ((uQ p (qg p { A with now:=t })).es s):=Es hs
      rw [FQ,FQ,hbad _ hx]
      unfold stA
      rw [eC,eB',FQ]
      unfold stA
      rw [eB,hs]
      simp only [Bool.true_and]
      rcases wQ (t:=t') (e:=A.es s) with ⟨h1,h2,h3⟩ | ⟨h1,h3⟩
      · -- it is over
        rw [h3]
        have key:wK t' (bif decide ((wK t (A.es s)).state=2)&&vz p (qg p { A with now:=t }) (qo p s) then { wK t (A.es s) with state:=3 } else wK t (A.es s))={ A.es s with state:=6 }:=by
          rcases wQ (t:=t) (e:=A.es s) with ⟨_,_,h4⟩ | ⟨_,h4⟩
          · rw [h4]
            have:decide (({ A.es s with state:=6 }:ah).state=2)=false:=rfl
            rw [this,Bool.false_and,lI]
            rcases wQ (t:=t') (e:={ A.es s with state:=6 }) with ⟨h5,_⟩ | ⟨_,h5⟩
            · exact absurd (show (6:Int)≤3 from h5) (by decide)
            · exact h5
          · rw [h4]
            cases decide ((A.es s).state=2)&&vz p (qg p { A with now:=t }) (qo p s) with
            | false=>rw [lI];exact h3
            | true =>
              rw [nC]
              rcases wQ (t:=t') (e:={ A.es s with state:=3 }) with ⟨_,_,h5⟩ | ⟨h5,_⟩
              · exact h5
              · exact absurd ⟨(by decide:(3:Int)≤3),h2⟩ h5
        rw [key]
      · have h4:wK t (A.es s)=A.es s:=by
          rcases wQ (t:=t) (e:=A.es s) with ⟨h5,h6,_⟩ | ⟨_,h6⟩
          · exact absurd ⟨h5,by omega⟩ h1
          · exact h6
        rw [h3,h4]
        by_cases h2:(A.es s).state=2
        · rw [dT h2,Bool.true_and,Bool.true_and]
          cases hb:vz p (qg p { A with now:=t }) (qo p s) with
          | false=>rw [lI,h3,dT h2,Bool.true_and]
          | true =>
            rw [nC,hmono _ hx hb,nC]
            have h5:wK t' { A.es s with state:=3 }={ A.es s with state:=3 }:=by
              rcases wQ (t:=t') (e:={ A.es s with state:=3 }) with ⟨_,h6,_⟩ | ⟨_,h6⟩
              · exact absurd ⟨by omega,h6⟩ h1
              · exact h6
            rw [h5];rfl
        · rw [dF h2,Bool.false_and,lI,h3,dF h2,Bool.false_and,lI]
  show ({ uQ p (qg p { uQ p (qg p { A with now:=t }) with now:=t' }) with es:=(uQ p (qg p { uQ p (qg p { A with now:=t }) with now:=t' })).es }:AO)=_
  rw [hes];rfl
def Ko (A:AO) (r:AO×List Str×Int):Prop:=r.2.2≠0→r.1=A
theorem oH {A:AO} {e:Int} {l:List Str}:Ko A (vT A e l):=fun _=>rfl
theorem vU {A B:AO}:Ko A (Ce B):=fun h=>absurd rfl h
theorem oW {A:AO} {b:Bool} {r s:AO×List Str×Int} (h1:Ko A r) (h2:Ko A s):Ko A (bif b then r else s):=by cases b <;> assumption
theorem xH {A:AO} {q:Prop} [Decidable q] {r s:AO×List Str×Int} (h1:Ko A r) (h2:Ko A s):Ko A (if q then r else s):=by split <;> assumption
theorem L8 {p:GPermitPlan} {A:AO} {x:GEvent}:Ko A (Bv p A x):=by
 unfold Bv
 refine oW oH (oW oH ?_)
 cases Kq p A (qo p x.Name) with
 | nil=>exact vU
 | cons r l=>exact oH
theorem Pj {p:GPermitPlan} {A:AO} {x:GEvent}:Ko A (Fb p A x):=by
 unfold Fb
 refine xH vU (xH ?_ (xH L8 (xH vU (xH L8 (xH ?_ (xH vU (xH ?_ (xH ?_ (xH ?_ (xH ?_ ?_))))))))))
 ·exact oW oH vU
 ·exact oW oH (oW oH vU)
 ·exact oW oH (oW oH vU)
 ·exact oW oH (oW oH (oW oH (oW oH (oW oH vU))))
 ·exact oW oH (oW oH vU)
 ·exact oW oH vU
 ·exact oW oH (oW oH vU)
theorem Xk {p:GPermitPlan} {A:AO} {x:GEvent}:Ko A (Ep p A x):=by
 unfold Ep
 cases AZ x.Op with
 | none=>exact Pj
 | some l=>exact oW oH (oW oH Pj)
theorem VE {p:GPermitPlan} {A:AO} {x:GEvent} (h:(wu p A x).2.2≠0):(wu p A x).1=A∨(A.now≤x.At∧(wu p A x).1=eX p { A with now:=x.At }):=by
 unfold wu at h ⊢
 cases h1:(decide (x.Op<0)||decide (12≤x.Op)||decide (x.At<0)||decide (1000000<x.At)) with
 | true=>exact .inl rfl
 | false =>
  rw [h1] at h
  rw [lI] at h ⊢
  by_cases h2:x.At<A.now
  ·rw [dT h2];exact .inl rfl
  ·rw [dF h2] at h ⊢
   rw [lI] at h ⊢
   simp only [] at h ⊢
   by_cases h3:(Ep p (eX p { A with now:=x.At }) x).2.2=0
   ·rw [dT h3] at h;exact absurd rfl h
   ·rw [dF h3];exact .inr ⟨by omega,Xk h3⟩
theorem Pm {p:GPermitPlan} {A:AO} {x:GEvent} (h:(wu p A x).2.2≠0):(wu p A x).1.done=A.done:=by
 rcases VE h with h | ⟨_,h⟩ <;> rw [h];rfl
def Ld (p:GPermitPlan) (A A':AO):Prop:=A=A'∨∃ t,A'.now≤t∧A=eX p { A' with now:=t }
theorem Ld.set {p:GPermitPlan} (ho:EX p) {A A':AO} (h:Ld p A A') {t:Int} (ht:A.now≤t):A'.now≤t∧eX p { A with now:=t }=eX p { A' with now:=t }:=by
 rcases h with rfl | ⟨t0,h1,rfl⟩
 ·exact ⟨ht,rfl⟩
 ·have ht:t0≤t:=ht
  exact ⟨by omega,Lc ho ht⟩
theorem Ld.done {p:GPermitPlan} {A A':AO} (h:Ld p A A'):A.done=A'.done:=by
 rcases h with rfl | ⟨t0,h1,rfl⟩ <;> rfl
theorem Ld.ok {p:GPermitPlan} (ho:EX p) {A A':AO} (h:Ld p A A') {x:GEvent} (hx:(wu p A x).2.2=0):(wu p A' x).2.2=0∧(wu p A' x).1=(wu p A x).1:=by
  have hd:=h.done
  have key:wu p A' x=wu p A x:=by
    unfold wu at hx ⊢
    cases h1:(decide (x.Op<0)||decide (12≤x.Op)||decide (x.At<0)||decide (1000000<x.At)) with
    | true=>rw [h1] at hx;exact absurd (show (2:Int)=0 from hx) (by decide)
    | false =>
      rw [h1] at hx
      rw [lI] at hx ⊢
      by_cases h2:x.At<A.now
      · rw [dT h2] at hx;exact absurd (show (10:Int)=0 from hx) (by decide)
      · obtain ⟨h3, h4⟩ := h.set ho (t := x.At) (by omega)
        rw [dF h2,dF (by omega:¬ x.At<A'.now),lI,lI,lI,h4,hd]
  rw [key];exact ⟨hx,rfl⟩
theorem Ld.no {p:GPermitPlan} (ho:EX p) {A A':AO} (h:Ld p A A') {x:GEvent} (hx:(wu p A x).2.2≠0):Ld p (wu p A x).1 A':=by
 rcases VE hx with h1 | ⟨h1,h2⟩
 ·rw [h1];exact h
 ·obtain ⟨h3,h4⟩:=h.set ho h1
  rw [h2,h4];exact .inr ⟨_,h3,rfl⟩
theorem QO {p:GPermitPlan} {x:GEvent}:∀ {d:List GEvent} {A0:AO},(qh p A0 d).2.2=0→(wu p (qh p A0 d).1 x).2.2=0→qh p A0 (d ++ [x])=((wu p (qh p A0 d).1 x).1,(qh p A0 d).2.1+1,0):=by
 intro d
 induction d with
 | nil=>intro A0 _ h;exact Eo h
 | cons y d ih =>
  intro A0 h1 h2
  by_cases h:(wu p A0 y).2.2=0
  ·rw [Eo h] at h1 h2 ⊢
   rw [List.cons_append,Eo h]
   have:=ih (A0:=(wu p A0 y).1) h1 h2
   rw [this]
  ·rw [J9 h] at h1;exact absurd h1 h
def J5 (p:GPermitPlan) (A:AO):Prop:=Ld p A (qh p (FO p) A.done).1∧(qh p (FO p) A.done).2.2=0
theorem J5.new {p:GPermitPlan}:J5 p (FO p):=⟨.inl rfl,rfl⟩
theorem J5.step {p:GPermitPlan} (ho:EX p) {A:AO} (h:J5 p A) (x:GEvent):J5 p (wu p A x).1:=by
 obtain ⟨h1,h2⟩:=h
 by_cases hx:(wu p A x).2.2=0
 ·obtain ⟨h3,h4⟩:=h1.ok ho hx
  unfold J5
  rw [VD hx,QO h2 h3]
  exact ⟨.inl h4.symm,rfl⟩
 ·unfold J5
  rw [Pm hx]
  exact ⟨h1.no ho hx,h2⟩
theorem settled {p:GPermitPlan} {A:AO} (h:IK p A):eX p A=A:=by
  have h1:(qg p A).es=A.es:=by
    funext s
    cases hs:kH p s with
    | false=>show (bif kH p s then _ else A.es s)=_;rw [hs];rfl
    | true =>
      obtain ⟨hx,hn⟩:=uP hs
      rw [Es hs]
      rcases wQ (t:=A.now) (e:=A.es s) with ⟨h2,h3,_⟩ | ⟨_,h3⟩
      · have := h.li _ hx (by rw [hn]; exact h2)
        rw [hn] at this;omega
      · exact h3
  have e1:qg p A=A:=by show ({ A with es:=(qg p A).es }:AO)=A;rw [h1]
  have h2:(uQ p A).es=A.es:=by
    funext s
    rw [FQ]
    cases hs:kH p s with
    | false=>rfl
    | true =>
      obtain ⟨hx,hn⟩:=uP hs
      by_cases h2:stA A s=2
      · rw [h.un _ hx (by rw [hn];exact h2),Bool.and_false];rfl
      · rw [dF h2,Bool.and_false];rfl
  unfold eX
  rw [e1]
  show ({ A with es:=(uQ p A).es }:AO)=A
  rw [h2]
theorem QK {p:GPermitPlan} {A:AO} (h:IK p A) {s:Str} (hs:kH p s=true) (h2:stA A s=2) (x:GEvent) (hx:x.At=A.now∧x.Op=3∧x.Name=s):(wu p A x).2.2=0∧stA (wu p A x).1 s≠2:=by
 obtain ⟨x1,x2,x3⟩:=hx
 have htm:=h.w.tm
 have e:wu p A x=({ eX p (VF A s 3) with done:=A.done ++ [x] },[],0):=by
  unfold wu
  rw [x1,x2,dF (by omega:¬ A.now<0),dF (by omega:¬ 1000000<A.now),dF (by omega:¬ A.now<A.now)]
  show (let r:=Ep p (eX p A) x;bif decide (r.2.2=0) then ({ eX p r.1 with done:=A.done ++ [x] },[],0) else r)=_
  rw [settled h]
  have e1:Ep p A x=Ce (VF A s 3):=by
   unfold Ep
   rw [x2,x3]
   show (bif !kH p s then vT A 6 [] else bif ![2].contains (stA A s) then vT A 18 [] else Fb p A x)=_
   rw [hs,h2]
   show Fb p A x=_
   unfold Fb
   rw [x2,x3];rfl
  rw [e1];rfl
 rw [e]
 refine ⟨rfl,?_⟩
 show stA (eX p (VF A s 3)) s≠2
 have e3:stA (VF A s 3) s=3:=by
  show (bif decide (s=s) then ({ A.es s with state:=3 }:ah) else A.es s).state=3
  rw [dT rfl];rfl
 rcases Cf (p:=p) (A:=VF A s 3) (s:=s) with h4 | ⟨h4 | h4,_⟩ <;> rw [h4]
 ·rw [e3];decide
 ·decide
 ·decide
end Go.KB
