/- The plain law of TopSafeSchedule. No condition. -/
import Derived.Test.YtjbnolcahodkkaaGreatPZ0
import Derived.Test.YtjbnolcahodkkaaGreatPZp
namespace Go.KB
set_option linter.unusedVariables false
set_option maxRecDepth 100000
def pW:GWork:=⟨[⟨[97],[119],[⟨3,1⟩],[],-1,false,[]⟩],[⟨[119],1,0⟩],[],[],[],0,0,0,5⟩
def pL:List aK:=[⟨0,1,true⟩]
theorem jJr:wL (2 ^ 70) pW pL [119]=some [(1,1),(2,1),(3,1)]:=by kernel_rfl
theorem YV:nC (2 ^ 70) pW pL=some []:=by
  have h1:jd (2 ^ 70) pW pL ([],0)=some (.inl ([],1)):=by
    unfold jd
    simp only []
    rw [show aC .lss (0:Int) (List.length pW.fH:Int)=true from rfl,kS,show idx pW.fH 0=some ⟨[119],1,0⟩ from rfl,bS,jJr,bS]
    refine ML fun π hπ=>?_
    rw [Vw,bS,ZN hπ];rfl
  have h2:jd (2 ^ 70) pW pL ([],1)=some (.inr []):=by kernel_rfl
  unfold nC
  generalize jd (2 ^ 70) pW pL=F at h1 h2
  have hN:(2:Nat) ^ 70=(2 ^ 70 - 2)+2:=by decide
  rw [hN,dh,h1]
  show (dh F ((2 ^ 70 - 2)+1) ([],1)).bind _=_
  rw [dh,h2];rfl
theorem YW:xM (2 ^ 70)=some true:=by
  have hs:rG (2 ^ 70) pW [⟨[97],0,1⟩]=some (pL,0):=by kernel_rfl
  have c1:qE (2 ^ 70) pW pL=some []:=by kernel_rfl
  have c3:nV (2 ^ 70) pW pL=some []:=by kernel_rfl
  have c4:pO (2 ^ 70) pW pL=some []:=by kernel_rfl
  have c5:rM (2 ^ 70) pW pL=some []:=by kernel_rfl
  have hd:zG (2 ^ 70) pW pL=some 4:=by kernel_rfl
  have hb:uq (2 ^ 70) pW [⟨[97],0,1⟩]=some ([],0):=by
    unfold uq
    rw [hs,bS]
    exact Us (by decide) c1 YV c3 c4 c5 (by decide)
  have hp:qK (2 ^ 70) pW [⟨[97],0,1⟩]=some (pL,0):=by
    unfold qK
    rw [hb,hs];rfl
  have hD:yL (2 ^ 70) pW [⟨[97],0,1⟩]=some (4,0):=by
    unfold yL
    rw [hp,bS]
    simp only []
    rw [show aC .neq (0:Int) 0=false from rfl,kG,hd];rfl
  show (yL (2 ^ 70) pW [⟨[97],0,1⟩]).bind _=_
  rw [hD];rfl
theorem LQ {n N:Nat} {f:Int→Option (Int ⊕ (Unit ⊕ Bool))} (P:Nat→Prop) (hf:∀ i:Nat,i<n→(f (i:Int)=some (.inl ((i+1:Nat):Int))∧P i)∨f (i:Int)=some (.inr (.inr false))) (he:f (n:Int)=some (.inr (.inl ()))) (hN:n<N) :
    ∃ o,dh f N 0=some o∧((o = .inl ()∧∀ i,i<n→P i)∨o = .inr false):=by
  exact AQ (f:=f) (I:=fun s=>∃ i:Nat,s=(i:Int)∧i≤n∧∀ j,j<i→P j) (μ:=fun s=>n - s.toNat) (post:=fun o=>(o = .inl ()∧∀ i,i<n→P i)∨o = .inr false) (by
    rintro s ⟨i,rfl,hi,hp⟩
    by_cases h:i<n
    · rcases hf i h with ⟨e1,e2⟩ | e2
      · left
        refine ⟨_,e1,⟨i+1,rfl,by omega,fun j hj=>?_⟩,?_⟩
        · by_cases e : j = i
          · subst e;exact e2
          · exact hp j (by omega)
        · simp only [Int.toNat_natCast];omega
      · exact .inr ⟨_,e2,.inr rfl⟩
    · have : i = n := by omega
      subst this
      exact .inr ⟨_,he,.inl ⟨rfl,hp⟩⟩) N 0 ⟨0,rfl,Nat.zero_le _,fun j hj=>absurd hj (Nat.not_lt_zero _)⟩ (by simp only [Int.toNat_zero];omega)
section
variable {N:Nat} {w:GWork} {A:List oV} (hA:AskL w A) (ho:QG (ja w A)) (hN:2 ^ 64≤N) (hp:NV (ja w A)) (hc:vP (ja w A)=0) (hw:w.Items.length≤1000)
include hA ho hN hp in
theorem l6_ok {g:ah} {st:List (Str×ai)} {ru:List (Str×au)} {pe:List (Str×Str)} {S:AO} (hr:RelA (ja w A) S g st ru pe) (h:Ph1 w A 0 S) :
    ∃ g' st' GR Tz S',dh (nG N (A,0)) N (0,g,st,ru,pe)=some (.inl (g',st',GR,Tz))∧RelA (ja w A) S' g' st' GR Tz∧Ph1 w A A.length S':=by
  have hl:=hA.len
  obtain ⟨o,ho1,g',st',GR,Tz,S',rfl,h1,h2⟩:=AQ (f:=nG N (A,0)) (I:=fun q=>∃ i:Nat,q.1=(i:Int)∧i≤A.length∧∃ S,RelA (ja w A) S q.2.1 q.2.2.1 q.2.2.2.1 q.2.2.2.2∧Ph1 w A i S) (μ:=fun q=>A.length - q.1.toNat) (post:=fun o=>∃ g' st' GR Tz S',o = .inl (g',st',GR,Tz)∧RelA (ja w A) S' g' st' GR Tz∧Ph1 w A A.length S') (by
    rintro ⟨si,g,st,ru,pe⟩ ⟨i,hi,hil,S,hr,h⟩
    simp only at hi hr
    subst hi
    by_cases hlt:i<A.length
    · left
      obtain ⟨g',st',GR,Tz,e1,e2⟩:=Do_eq hp ho (by omega) hr h.inv (by rw [h.dl];omega) (YX A[i]!) (N:=N)
      obtain ⟨k1,k2⟩:=jX8 hA ho h hlt
      refine ⟨(((i+1:Nat):Int),g',st',GR,Tz),?_,⟨i+1,rfl,by omega,_,e2,k2⟩,?_⟩
      · have e1':oD N g st ru pe (⟨0,1,A[i]!.Item,[],[97,110,110],0,0,0⟩:cu)=_:=e1
        unfold nG
        simp only []
        rw [bM,dT (by omega),kS,rH hlt,bS,e1',bS]
        simp only []
        rw [k1,show aC .neq (0:Int) 0=false from rfl,kG,oJ (by omega)]
      · show A.length - ((i+1:Nat):Int).toNat<A.length - ((i:Nat):Int).toNat
        simp only [Int.toNat_natCast];omega
    · right
      have:i=A.length:=by omega
      subst this
      refine ⟨.inl (g,st,ru,pe),?_,g,st,ru,pe,S,rfl,hr,h⟩
      unfold nG
      simp only []
      rw [bM,dF (by omega),kG]) N (0,g,st,ru,pe) ⟨0,rfl,Nat.zero_le _,S,hr,h⟩ (by simp only [];omega)
  exact ⟨g',st',GR,Tz,S',ho1,h1,h2⟩
include hA ho hN hp hc hw in
theorem l5_ok {g:ah} {st:List (Str×ai)} {ru:List (Str×au)} {pe:List (Str×Str)} {S:AO} (hr:RelA (ja w A) S g st ru pe) (h:Ph2 w A 0 S) :
    ∃ o,dh (nH N w (A,0) (ja w A)) N (0,g,st,ru,pe)=some (.inl o):=by
  have hl:=hA.len
  have hm:=hp.m
  obtain ⟨o,ho1,o',rfl⟩:=AQ (f:=nH N w (A,0) (ja w A)) (I:=fun q=>∃ i:Nat,q.1=(i:Int)∧i≤A.length∧∃ S,RelA (ja w A) S q.2.1 q.2.2.1 q.2.2.2.1 q.2.2.2.2∧Ph2 w A i S) (μ:=fun q=>A.length - q.1.toNat) (post:=fun o=>∃ o',o = .inl o') (by
    rintro ⟨si,g,st,ru,pe⟩ ⟨i,hi,hil,S,hr,h⟩
    simp only at hi hr
    subst hi
    by_cases hlt:i<A.length
    · left
      have ho1:=DR hA hlt
      obtain ⟨g',st',GR,Tz,e1,e2⟩:=Do_eq hp ho (by omega) hr h.inv (by have:=h.dl;omega) (Ut A[i]!) (N:=N)
      obtain ⟨k1,k2,k3⟩:=jX9 hA ho h hlt
      have hop:=jV7 hp (by omega) e2 (N:=N)
      have hcm:=TP (N:=N) (l:=IB w A (TQ (ja w A) S (Ut A[i]!)).1) hp (by
        unfold IB rC
        rw [List.length_map]
        refine Nat.lt_of_le_of_lt (List.length_filter_le _ _) ?_
        omega) (by omega)
      rw [opn_ok hA k2 hc] at hcm
      have hov:=jZj (N:=N) (g:=g') (st:=st') (ru:=GR) e2.pe k2.pp
      have h4:=l4_ok hA hN k2 k3 hlt hw
      refine ⟨(((i+1:Nat):Int),g',st',GR,Tz),?_,⟨i+1,rfl,by omega,_,e2,k2⟩,?_⟩
      · have e1':oD N g st ru pe (⟨1440 * A[i]!.From,2,A[i]!.Item,[],[98,111,98],0,0,0⟩:cu)=_:=e1
        have hop':qN N g' st' GR Tz=some (IB w A (TQ (ja w A) S (Ut A[i]!)).1):=hop
        unfold nH
        simp only []
        rw [bM,dT (by omega),kS,rH hlt,bS,bS,w64 (n:=1440 * A[i]!.From) (by omega) (by omega),e1',bS]
        simp only []
        rw [k1,show aC .neq (0:Int) 0=false from rfl,kG,hop',bS,hcm,bS]
        simp only []
        rw [show aC .neq (0:Int) 0=false from rfl,Bool.not_true,Bool.or_self,Bool.not_false,kS,hov,bS,Bool.false_or,show aC .gtr (List.length ([]:List Str):Int) 0=false from rfl,kG,h4,bS,oJ (by omega)];rfl
      · show A.length - ((i+1:Nat):Int).toNat<A.length - ((i:Nat):Int).toNat
        simp only [Int.toNat_natCast];omega
    · right
      have:i=A.length:=by omega
      subst this
      refine ⟨.inl (g,st,ru,pe),?_,_,rfl⟩
      unfold nH
      simp only []
      rw [bM,dF (by omega),kG]) N (0,g,st,ru,pe) ⟨0,rfl,Nat.zero_le _,S,hr,h⟩ (by simp only [];omega)
  exact ⟨o',ho1⟩
end
section
variable {N:Nat} (hN:2 ^ 64≤N)
include hN
theorem Xk {l:List Str} (hl:l.length≤1000):∃ b,AY N l=some b:=by
  obtain ⟨o,ho,hc⟩:=LQ (f:=xP N l) (N:=N) (n:=l.length) (fun _=>True) (fun i hi=>by
    unfold xP
    rw [bM,dT (by omega),kS,rH hi,bS,oJ (by omega)]
    cases aC .gtr (List.length l[i]! : Int) 40 with
    | true=>exact .inr rfl
    | false=>exact .inl ⟨rfl,trivial⟩) (by
    unfold xP
    rw [bM,dF (by omega),kG]) (by omega)
  unfold AY
  rw [ho,bS]
  cases o with
  | inl _=>exact ⟨true,rfl⟩
  | inr b=>exact ⟨b,rfl⟩
theorem few_ex {s:List GSlot}:∃ b,EL N s=some b∧(b=true→s.length≤50):=by
  unfold EL
  by_cases h:s.length≤50
  · obtain ⟨o,ho,hc⟩:=LQ (f:=wE N s) (N:=N) (n:=s.length) (fun _=>True) (fun i hi=>by
      unfold wE
      rw [bM,dT (by omega),yA,dT (by omega),Bool.and_self,kS,rH hi,bS,oJ (by omega)]
      cases aC .gtr (List.length s[i]!.Item:Int) 40 with
      | true=>exact .inr rfl
      | false=>exact .inl ⟨rfl,trivial⟩) (by
      unfold wE
      rw [bM,dF (by omega),Bool.false_and,kG]) (by omega)
    rw [ho,bS]
    cases o with
    | inl _=>exact ⟨_,rfl,fun _=>h⟩
    | inr b=>exact ⟨b,rfl,fun _=>h⟩
  · obtain ⟨M, rfl⟩ : ∃ x, N = x + 1 := ⟨N - 1, by omega⟩
    have:wE (M+1) s 0=some (.inr (.inl ())):=by
      unfold wE
      rw [yA,dF (by omega),Bool.and_false,kG]
    rw [dh,this]
    refine ⟨_,rfl,fun hb=>?_⟩
    have hb:decide ((s.length:Int)≤50)=true:=hb
    have:=of_decide_eq_true hb
    omega
theorem jZq {w:GWork}:∃ b,Cf N w 12=some b∧(b=true→SmW w∧(w.Items.length≤12∨40<w.Items.length)):=by
  unfold Cf
  simp only [rP,yA]
  by_cases h:(w.fH.length≤8∧w.bP.length≤14∧w.aW.length≤32∧w.iO.length≤22∧(w.Items.length≤12∨40<w.Items.length))∧w.Items.length≤45
  · obtain ⟨⟨h1,h2,h3,h4,h5⟩,h6⟩:=h
    have hc:(((((decide (8<(w.fH.length:Int))||decide (14<(w.bP.length:Int)))||decide (32<(w.aW.length:Int)))||decide (22<(w.iO.length:Int)))||(decide (12<(w.Items.length:Int))&&decide ((w.Items.length:Int)≤40)))||decide (45<(w.Items.length:Int)))=false:=by
      rw [dF (p:=8<(w.fH.length:Int)) (by omega),dF (p:=14<(w.bP.length:Int)) (by omega),dF (p:=32<(w.aW.length:Int)) (by omega),dF (p:=22<(w.iO.length:Int)) (by omega),dF (p:=45<(w.Items.length:Int)) (by omega)]
      rcases h5 with h | h
      · rw [dF (p:=12<(w.Items.length:Int)) (by omega)];rfl
      · rw [dF (p:=(w.Items.length:Int)≤40) (by omega),Bool.and_false];rfl
    rw [hc,kG]
    obtain ⟨o3,ho3,hc3⟩:=LQ (f:=xQ N w) (N:=N) (n:=w.fH.length) (fun _=>True) (fun i hi=>by
      unfold xQ
      rw [bM,dT (by omega),kS,rH hi,bS,oJ (by omega)]
      cases aC .gtr (List.length w.fH[i]!.Name:Int) 40 with
      | true=>exact .inr rfl
      | false=>exact .inl ⟨rfl,trivial⟩) (by
      unfold xQ
      rw [bM,dF (by omega),kG]) (by omega)
    obtain ⟨o2,ho2,hc2⟩:=LQ (f:=xR N w) (N:=N) (n:=w.bP.length) (fun i=>w.bP[i]!.Next.length≤20) (fun i hi=>by
      unfold xR
      rw [bM,dT (by omega),kS,rH hi,bS,oJ (by omega)]
      cases aC .gtr (List.length w.bP[i]!.Name:Int) 40 with
      | true=>exact .inr rfl
      | false =>
        rw [Bool.not_false,kS,bS,Bool.false_or,rP]
        by_cases a:20<(w.bP[i]!.Next.length:Int)
        · rw [dT a];exact .inr rfl
        · obtain ⟨b, hb⟩ := Xk hN (l := w.bP[i]!.Next) (by omega)
          rw [dF a,Bool.not_false,kS,bS,kS,hb,bS]
          cases b with
          | true=>exact .inl ⟨rfl,by omega⟩
          | false=>exact .inr rfl) (by
      unfold xR
      rw [bM,dF (by omega),kG]) (by omega)
    obtain ⟨o1,ho1,hc1⟩:=LQ (f:=xU N w) (N:=N) (n:=w.Items.length) (fun i=>w.Items[i]!.Modes.length≤6∧w.Items[i]!.After.length≤12) (fun i hi=>by
      unfold xU
      rw [bM,dT (by omega),kS,rH hi,bS,oJ (by omega)]
      simp only [rP]
      by_cases a:6<(w.Items[i]!.Modes.length:Int)
      · rw [dT a];right;simp
      · by_cases c : 12 < (w.Items[i]!.After.length : Int)
        · rw [dT c];right;simp
        · obtain ⟨b, hb⟩ := Xk hN (l := w.Items[i]!.After) (by omega)
          rw [dF a,dF c,hb]
          cases decide (40<(List.length w.Items[i]!.Name:Int)) <;> cases decide (40<(List.length w.Items[i]!.tK:Int)) <;> cases decide (40<(List.length w.Items[i]!.Space:Int)) <;> cases b <;> first | exact .inr rfl | exact .inl ⟨rfl,by omega,by omega⟩) (by
      unfold xU
      rw [bM,dF (by omega),kG]) (by omega)
    rw [ho3,bS]
    rcases hc3 with ⟨rfl,_⟩ | rfl
    · rw [Sum.elim_inl,ho2,bS]
      rcases hc2 with ⟨rfl,p2⟩ | rfl
      · rw [Sum.elim_inl,ho1,bS]
        rcases hc1 with ⟨rfl,p1⟩ | rfl
        · exact ⟨true,rfl,fun _=>⟨⟨h1,h2,h3,h4,h6,p2,fun i hi=>(p1 i hi).1,fun i hi=>(p1 i hi).2⟩,h5⟩⟩
        · exact ⟨false,rfl,fun x=>by cases x⟩
      · exact ⟨false,rfl,fun x=>by cases x⟩
    · exact ⟨false,rfl,fun x=>by cases x⟩
  · refine ⟨false, ?_, fun x => by cases x⟩
    have hc:(((((decide (8<(w.fH.length:Int))||decide (14<(w.bP.length:Int)))||decide (32<(w.aW.length:Int)))||decide (22<(w.iO.length:Int)))||(decide (12<(w.Items.length:Int))&&decide ((w.Items.length:Int)≤40)))||decide (45<(w.Items.length:Int)))=true:=by
      refine Bool.of_not_eq_false fun hf=>?_
      simp only [Bool.or_eq_false_iff,Bool.and_eq_false_iff,decide_eq_false_iff_not] at hf
      omega
    rw [hc];rfl
end
theorem law_TopSafeSchedule (x0:GWork) (x1:List GSlot) (h0:x0.ok) (h1:(gL GSlot.ok) x1):yw (2 ^ 70) x0 x1=some true:=by
  have hN:2 ^ 64≤(2 ^ 70:Nat):=by decide
  have hpl:=YW
  generalize (2 ^ 70:Nat)=N at hN hpl
  obtain ⟨b1,p1,q1⟩:=jZq hN (w:=x0)
  obtain ⟨b2,p2,q2⟩:=few_ex hN (s:=x1)
  unfold yw
  rw [p1,bS]
  cases b1 with
  | false=>rw [Bool.not_false,Bool.not_true,kG,bS,Bool.true_or,Bool.not_true,kG,bS,Bool.true_or,kS,hpl];rfl
  | true =>
    obtain ⟨hw,hi⟩:=q1 rfl
    rw [Bool.not_true,Bool.not_false,kS,p2,bS]
    cases b2 with
    | false=>rw [Bool.not_false,Bool.or_true,Bool.not_true,kG,bS,Bool.true_or,kS,hpl];rfl
    | true =>
      have h50:=q2 rfl
      obtain ⟨l,e,k1,k2⟩:=jV8 hN hw (s:=x1) (by omega)
      have hck:wz N x0 x1=some e:=by unfold wz;rw [k1];rfl
      rw [Bool.not_true,Bool.or_self,Bool.not_false,kS,hck,bS,Bool.false_or,wP]
      by_cases he:e=0
      · subst he
        have ok:=k2 rfl
        have h40:=ok.okw.i40
        obtain ⟨p,a1,a2,a3⟩:=jV9 hN k1 ok (by omega)
        have hA:=jWj ok (by omega) a2 a3
        rw [dT rfl,Bool.not_true,kG,a1,bS]
        simp only []
        generalize Uu x0 l p=A at hA
        have hof:=jJs hN hw (A:=A) (by have:=hA.len;omega) (fun x hx=>by
          obtain ⟨_,_,_,c1,c2,c3,_⟩:=hA.one x hx
          omega)
        rw [hof,bS]
        have hsm:=off_sm hw ok.okw hA
        rcases jJt hw ok.okw hA with hc | hc
        · obtain ⟨st, n1, n2⟩ := New_eq hsm hc (by omega) (N := N)
          have ho:=okP hc
          obtain ⟨g',st',GR,Tz,S',l1,l2,l3⟩:=l6_ok hA ho hN hsm n2 (jWq hA ho)
          obtain ⟨o,l4⟩:=l5_ok hA ho hN hsm hc (by omega) l2 (jWx hA l3)
          rw [n1,bS]
          unfold RP
          simp only []
          rw [show aC .neq (0:Int) 0=false from rfl,kG,kG,l1,bS,Sum.elim_inl]
          simp only []
          rw [l4,bS,Sum.elim_inl,hpl];rfl
        · have n1 := jWz hsm (by rw [hc]; decide) (by omega) (N := N)
          rw [n1,hc,bS]
          unfold RP
          simp only []
          rw [show aC .neq (0:Int) 0=false from rfl,show aC .neq (3:Int) 0=true from rfl,kG,kS,show (aC .eql (3:Int) 3||aC .eql (3:Int) 8)=true from rfl,kS,hpl];rfl
      · rw [dF he,Bool.not_false,kS,hpl];rfl
end Go.KB
