/- The plain law of TopProvedSchedule. No condition. -/
import Derived.Test.YtdmioehoinnamaaGreatDoorPZz
namespace Go.KB
set_option linter.unusedVariables false
set_option maxRecDepth 100000
theorem EH {n N:Nat} {f:Int→Option (Int ⊕ (Unit ⊕ Bool))} (P:Nat→Prop) (hf:∀ i:Nat,i<n→(f (i:Int)=some (.inl ((i+1:Nat):Int))∧P i)∨f (i:Int)=some (.inr (.inr false))) (he:f (n:Int)=some (.inr (.inl ()))) (hN:n<N) :
    ∃ o,bM f N 0=some o∧((o = .inl ()∧∀ i,i<n→P i)∨o = .inr false):=by
  exact ni (f:=f) (I:=fun s=>∃ i:Nat,s=(i:Int)∧i≤n∧∀ j,j<i→P j) (μ:=fun s=>n - s.toNat) (post:=fun o=>(o = .inl ()∧∀ i,i<n→P i)∨o = .inr false) (by
    rintro s ⟨i,rfl,hi,hp⟩
    by_cases h:i<n
    · rcases hf i h with ⟨e1,e2⟩ | e2
      · left
        refine ⟨_,e1,⟨i+1,rfl,by omega,fun j hj=>?_⟩,?_⟩
        · by_cases e : j = i
          · subst e;exact e2
          · exact hp j (by omega)
        · simp only [Int.toNat_natCast];omega
      · exact .inr ⟨_,e2,.inr rfl⟩
    · have : i = n := by omega
      subst this
      exact .inr ⟨_,he,.inl ⟨rfl,hp⟩⟩) N 0 ⟨0,rfl,Nat.zero_le _,fun j hj=>absurd hj (Nat.not_lt_zero _)⟩ (by simp only [Int.toNat_zero];omega)
section
variable {N:Nat} (hN:2 ^ 64≤N)
include hN
theorem Rk {l:List Str} (hl:l.length≤1000):∃ b,xQ N l=some b:=by
  obtain ⟨o,ho,hc⟩:=EH (f:=uI N l) (N:=N) (n:=l.length) (fun _=>True) (fun i hi=>by
    unfold uI
    rw [aO,dT (by omega),jm,iV hi,bS,kN (by omega)]
    cases ax .gtr (List.length l[i]! : Int) 40 with
    | true=>exact .inr rfl
    | false=>exact .inl ⟨rfl,trivial⟩) (by
    unfold uI
    rw [aO,dF (by omega),iP]) (by omega)
  unfold xQ
  rw [ho,bS]
  cases o with
  | inl _=>exact ⟨true,rfl⟩
  | inr b=>exact ⟨b,rfl⟩
theorem few_ex {s:List GSlot}:∃ b,AY N s=some b∧(b=true→s.length≤50):=by
  unfold AY
  by_cases h:s.length≤50
  · obtain ⟨o,ho,hc⟩:=EH (f:=sQ N s) (N:=N) (n:=s.length) (fun _=>True) (fun i hi=>by
      unfold sQ
      rw [aO,dT (by omega),yt,dT (by omega),Bool.and_self,jm,iV hi,bS,kN (by omega)]
      cases ax .gtr (List.length s[i]!.Item:Int) 40 with
      | true=>exact .inr rfl
      | false=>exact .inl ⟨rfl,trivial⟩) (by
      unfold sQ
      rw [aO,dF (by omega),Bool.false_and,iP]) (by omega)
    rw [ho,bS]
    cases o with
    | inl _=>exact ⟨_,rfl,fun _=>h⟩
    | inr b=>exact ⟨b,rfl,fun _=>h⟩
  · obtain ⟨M, rfl⟩ : ∃ x, N = x + 1 := ⟨N - 1, by omega⟩
    have:sQ (M+1) s 0=some (.inr (.inl ())):=by
      unfold sQ
      rw [yt,dF (by omega),Bool.and_false,iP]
    rw [bM,this]
    refine ⟨_,rfl,fun hb=>?_⟩
    have hb:decide ((s.length:Int)≤50)=true:=hb
    have:=of_decide_eq_true hb
    omega
theorem Yo {w:GWork}:∃ b,y8 N w 12=some b∧(b=true→NH w∧(w.Items.length≤12∨40<w.Items.length)):=by
  unfold y8
  simp only [jE,yt]
  by_cases h:(w.aY.length≤8∧w.dh.length≤14∧w.bD.length≤32∧w.dm.length≤22∧(w.Items.length≤12∨40<w.Items.length))∧w.Items.length≤45
  · obtain ⟨⟨h1,h2,h3,h4,h5⟩,h6⟩:=h
    have hc:(((((decide (8<(w.aY.length:Int))||decide (14<(w.dh.length:Int)))||decide (32<(w.bD.length:Int)))||decide (22<(w.dm.length:Int)))||(decide (12<(w.Items.length:Int))&&decide ((w.Items.length:Int)≤40)))||decide (45<(w.Items.length:Int)))=false:=by
      rw [dF (p:=8<(w.aY.length:Int)) (by omega),dF (p:=14<(w.dh.length:Int)) (by omega),dF (p:=32<(w.bD.length:Int)) (by omega),dF (p:=22<(w.dm.length:Int)) (by omega),dF (p:=45<(w.Items.length:Int)) (by omega)]
      rcases h5 with h | h
      · rw [dF (p:=12<(w.Items.length:Int)) (by omega)];rfl
      · rw [dF (p:=(w.Items.length:Int)≤40) (by omega),Bool.and_false];rfl
    rw [hc,iP]
    obtain ⟨o3,ho3,hc3⟩:=EH (f:=uJ N w) (N:=N) (n:=w.aY.length) (fun _=>True) (fun i hi=>by
      unfold uJ
      rw [aO,dT (by omega),jm,iV hi,bS,kN (by omega)]
      cases ax .gtr (List.length w.aY[i]!.Name:Int) 40 with
      | true=>exact .inr rfl
      | false=>exact .inl ⟨rfl,trivial⟩) (by
      unfold uJ
      rw [aO,dF (by omega),iP]) (by omega)
    obtain ⟨o2,ho2,hc2⟩:=EH (f:=uK N w) (N:=N) (n:=w.dh.length) (fun i=>w.dh[i]!.Next.length≤20) (fun i hi=>by
      unfold uK
      rw [aO,dT (by omega),jm,iV hi,bS,kN (by omega)]
      cases ax .gtr (List.length w.dh[i]!.Name:Int) 40 with
      | true=>exact .inr rfl
      | false =>
        rw [Bool.not_false,jm,bS,Bool.false_or,jE]
        by_cases a:20<(w.dh[i]!.Next.length:Int)
        · rw [dT a];exact .inr rfl
        · obtain ⟨b, hb⟩ := Rk hN (l := w.dh[i]!.Next) (by omega)
          rw [dF a,Bool.not_false,jm,bS,jm,hb,bS]
          cases b with
          | true=>exact .inl ⟨rfl,by omega⟩
          | false=>exact .inr rfl) (by
      unfold uK
      rw [aO,dF (by omega),iP]) (by omega)
    obtain ⟨o1,ho1,hc1⟩:=EH (f:=uM N w) (N:=N) (n:=w.Items.length) (fun i=>w.Items[i]!.Modes.length≤6∧w.Items[i]!.After.length≤12) (fun i hi=>by
      unfold uM
      rw [aO,dT (by omega),jm,iV hi,bS,kN (by omega)]
      simp only [jE]
      by_cases a:6<(w.Items[i]!.Modes.length:Int)
      · rw [dT a];right;simp
      · by_cases c : 12 < (w.Items[i]!.After.length : Int)
        · rw [dT c];right;simp
        · obtain ⟨b, hb⟩ := Rk hN (l := w.Items[i]!.After) (by omega)
          rw [dF a,dF c,hb]
          cases decide (40<(List.length w.Items[i]!.Name:Int)) <;> cases decide (40<(List.length w.Items[i]!.iq:Int)) <;> cases decide (40<(List.length w.Items[i]!.Space:Int)) <;> cases b <;> first | exact .inr rfl | exact .inl ⟨rfl,by omega,by omega⟩) (by
      unfold uM
      rw [aO,dF (by omega),iP]) (by omega)
    rw [ho3,bS]
    rcases hc3 with ⟨rfl,_⟩ | rfl
    · rw [Sum.elim_inl,ho2,bS]
      rcases hc2 with ⟨rfl,p2⟩ | rfl
      · rw [Sum.elim_inl,ho1,bS]
        rcases hc1 with ⟨rfl,p1⟩ | rfl
        · exact ⟨true,rfl,fun _=>⟨⟨h1,h2,h3,h4,h6,p2,fun i hi=>(p1 i hi).1,fun i hi=>(p1 i hi).2⟩,h5⟩⟩
        · exact ⟨false,rfl,fun x=>by cases x⟩
      · exact ⟨false,rfl,fun x=>by cases x⟩
    · exact ⟨false,rfl,fun x=>by cases x⟩
  · refine ⟨false, ?_, fun x => by cases x⟩
    have hc:(((((decide (8<(w.aY.length:Int))||decide (14<(w.dh.length:Int)))||decide (32<(w.bD.length:Int)))||decide (22<(w.dm.length:Int)))||(decide (12<(w.Items.length:Int))&&decide ((w.Items.length:Int)≤40)))||decide (45<(w.Items.length:Int)))=true:=by
      refine Bool.of_not_eq_false fun hf=>?_
      simp only [Bool.or_eq_false_iff,Bool.and_eq_false_iff,decide_eq_false_iff_not] at hf
      omega
    rw [hc];rfl
theorem Om {w:GWork}:∃ e,wE N w=some e∧(e=0→w.Items.length≤8∧w.Last≤60):=by
  have _:=hN
  unfold wE
  rw [jE,jE]
  by_cases a:8<(w.Items.length:Int)
  · rw [dT a];exact ⟨8,rfl,fun x=>by omega⟩
  · by_cases b : 60 < w.Last
    · rw [dF a,dT b];exact ⟨8,rfl,fun x=>by omega⟩
    · rw [dF a,dF b];exact ⟨0,rfl,fun _=>by omega⟩
theorem Yp {w:GWork}:∃ b,y9 N w=some b∧(b=true→NH w∧(qQ N w=some 0→wE N w=some 0→w.Items.length≤3)):=by
  obtain ⟨b1,p1,q1⟩:=Yo hN (w:=w)
  unfold y9
  rw [p1,bS]
  cases b1 with
  | false=>exact ⟨false,rfl,fun x=>by cases x⟩
  | true =>
    obtain ⟨hw,_⟩:=q1 rfl
    obtain ⟨e1,k1,_⟩:=Rl hN hw
    obtain ⟨e2,k2,_⟩:=Om hN (w:=w)
    rw [Bool.not_true,iP,k1,bS,rC]
    by_cases h1:e1=0
    · rw [dT h1,Bool.not_true,Bool.not_false,jm,k2,bS,Bool.false_or,rC]
      by_cases h2:e2=0
      · rw [dT h2,Bool.not_true,iP,jE,jE]
        by_cases a:3<(w.Items.length:Int)
        · rw [dT a];exact ⟨false,rfl,fun x=>by cases x⟩
        · by_cases c : 6 < w.Last
          · rw [dF a,dT c];exact ⟨false,rfl,fun x=>by cases x⟩
          · rw [dF a,dF c,Bool.or_self,iP]
            obtain ⟨o,ho,hc⟩:=EH (f:=uO N w) (N:=N) (n:=w.Items.length) (fun _=>True) (fun i hi=>by
              unfold uO
              rw [aO,dT (by omega),jm,iV hi,bS,kN (by omega)]
              cases ax .gtr (List.length w.Items[i]!.Modes:Int) 2 with
              | true=>exact .inr rfl
              | false=>exact .inl ⟨rfl,trivial⟩) (by
              unfold uO
              rw [aO,dF (by omega),iP]) (by omega)
            rw [ho,bS]
            rcases hc with ⟨rfl,_⟩ | rfl
            · exact ⟨true,rfl,fun _=>⟨hw,fun _ _=>by omega⟩⟩
            · exact ⟨false,rfl,fun x=>by cases x⟩
      · rw [dF h2]
        exact ⟨true,rfl,fun _=>⟨hw,fun _ h=>absurd (Option.some.inj h) h2⟩⟩
    · rw [dF h1]
      exact ⟨true,rfl,fun _=>⟨hw,fun h _=>absurd (Option.some.inj h) h1⟩⟩
end
theorem law_TopProvedSchedule (x0:GWork) (x1:List GSlot) (x2:Int) (h0:x0.ok) (h1:gL GSlot.ok x1) (h2:gI .u8 x2):sW (2 ^ 70) x0 x1 x2=some true:=by
  have V9:2 ^ 64+9≤(2 ^ 70:Nat):=by decide
  have hN:2 ^ 64≤(2 ^ 70:Nat):=by decide
  have hpl:=TS
  generalize (2 ^ 70:Nat)=N at hN V9 hpl
  have hx2:0≤x2∧x2≤255:=h2
  obtain ⟨b1,p1,q1⟩:=Yp hN (w:=x0)
  obtain ⟨b2,p2,q2⟩:=few_ex hN (s:=x1)
  unfold sW
  rw [p1,bS]
  cases b1 with
  | false=>rw [Bool.not_false,Bool.not_true,iP,bS,Bool.true_or,Bool.not_true,iP,bS,Bool.true_or,Bool.not_true,iP,bS,Bool.true_or,Bool.not_true,iP,bS,Bool.true_or,jm,hpl];rfl
  | true =>
    obtain ⟨hw,h3⟩:=q1 rfl
    rw [Bool.not_true,Bool.not_false,jm,p2,bS]
    cases b2 with
    | false=>rw [Bool.not_false,Bool.or_true,Bool.not_true,iP,bS,Bool.true_or,Bool.not_true,iP,bS,Bool.true_or,Bool.not_true,iP,bS,Bool.true_or,jm,hpl];rfl
    | true =>
      have h50:=q2 rfl
      obtain ⟨e3,k3,f3⟩:=Rl hN hw
      obtain ⟨e4,k4,f4⟩:=Om hN (w:=x0)
      obtain ⟨e5,k5,f5⟩:=Wh hN hw (s:=x1) (by omega)
      rw [Bool.not_true,Bool.or_self,Bool.not_false,jm,k3,bS,Bool.false_or,rC]
      by_cases g3:e3=0
      · rw [dT g3,Bool.not_true,Bool.not_false,jm,k4,bS,Bool.false_or,rC]
        by_cases g4:e4=0
        · rw [dT g4,Bool.not_true,Bool.not_false,jm,k5,bS,Bool.false_or,rC]
          by_cases g5:e5=0
          · have ok:=f3 g3
            obtain ⟨h8,h60⟩:=f4 g4
            have hsc:=f5 g5
            have h3:=h3 (by rw [k3,g3]) (by rw [k4,g4])
            obtain ⟨l,s1,hl,hf,_⟩:=Rn hN hw ok hsc
            obtain ⟨ec,c1,c2⟩:=Yq V9 hw ok h8 s1 hl hf
            rw [dT g5,Bool.not_true,iP]
            rcases Yr V9 hw ok h8 h60 with ⟨L1,hL1,m1,r1⟩ | ⟨n1,r1⟩
            · rcases Nh V9 hw ok h8 h60 with ⟨L2,hL2,m2,r2⟩ | ⟨n2,_⟩
              · obtain ⟨_,d1,w1⟩:=PS V9 hw ok h8 (Oo V9 hw ok h8 hL1.wf hL1.full) hL1
                obtain ⟨_,d2,_⟩:=PS V9 hw ok h8 (Oo V9 hw ok h8 hL2.wf hL2.full) hL2
                obtain ⟨bb,t1,t2⟩:=Yt V9 hw ok h8
                rw [r1,bS,r2,bS]
                simp only []
                rw [show ax .neq (0:Int) 0=false from rfl,Bool.or_self,iP,d1,bS,d2,bS,w1,bS,t1,bS]
                simp only []
                have y1:=m1 L2 hL2
                have y2:=m2 L1 hL1
                have y3:=t2 L1 hL1
                rw [show ax .neq (0:Int) 0=false from rfl,Bool.or_self,Bool.or_self,Bool.or_self,jE,dF (by omega),jE,dF (by omega),jE,dF (by omega),Bool.or_self,Bool.or_self,Bool.or_self,iP,c1,bS]
                have hmid:(bif (ax .eql ec 0) then ((kU N x0 x1).bind fun v16=>(tN N x0 x1).bind fun v17=>bif ((((ax .neq v16.2 0)||(ax .neq v17.2 0))||(ax .lss v16.1 (wS x0 L1)))||(ax .lss v17.1 (DR x0 L2))) then (some (Sum.inr false)) else (some (Sum.inl ()))) else (some (Sum.inl ())):Option (Unit ⊕ Bool))=some (Sum.inl ()):=by
                  rw [yP]
                  by_cases hc:ec=0
                  · have hP:=c2.1 hc
                    obtain ⟨_,a1,a2⟩:=PS V9 hw ok h8 s1 hP
                    have z1:=m1 l hP
                    have z2:=m2 l hP
                    rw [dT hc,jm,a1,bS,a2,bS]
                    simp only []
                    rw [show ax .neq (0:Int) 0=false from rfl,aO,dF (by omega),aO,dF (by omega)];rfl
                  · rw [dF hc,iP]
                rw [hmid,bS,Sum.elim_inl]
                have Yd:Xm (IntKind.i64.wrap x2) 7=some (x2 % 7):=by
                  unfold Xm
                  rw [BU (by omega) (by omega),if_neg (by omega),Int.tmod_eq_emod_of_nonneg hx2.1]
                obtain ⟨v,v1,v2,v3⟩:=shl_ok h3
                have hd0:0≤x2 % 7:=Int.emod_nonneg _ (by omega)
                have hd1:x2 % 7<7:=Int.emod_lt_of_pos _ (by omega)
                have R1:=Oq V9 hw ok h3 h60 hl hf s1 v1 v2 v3 (now:=x2 % 7) hd0 (by omega)
                have R2:=Oq V9 hw ok h3 h60 hl hf s1 v1 v2 v3 (now:=x2 % 7+1) (by omega) (by omega)
                rw [Yd,bS,BU (n:=x2 % 7+1) (by omega) (by omega)]
                rcases R2 with ⟨xb,kb,rb,hkb,fb,nb⟩ | ⟨rb,nb⟩
                · have fa:=fb.mono hd0
                  rcases R1 with ⟨xa,ka,ra,_,fa2,na⟩ | ⟨ra,na⟩
                  · have hle:ka≤kb:=by
                      refine Classical.byContradiction fun h=>?_
                      exact na kb (by omega) fa
                    rw [ra,bS,rb,bS]
                    simp only []
                    rw [show ax .neq (0:Int) 0=false from rfl,iP,show ax .eql (0:Int) 0=true from rfl,yt,dT (by omega),Bool.and_self,jm,hpl];rfl
                  · exfalso
                    exact na kb hkb fa
                · rcases R1 with ⟨xa,ka,ra,_,fa2,na⟩ | ⟨ra,na⟩
                  · rw [ra,bS,rb,bS]
                    simp only []
                    rw [show ax .neq (29:Int) 0=true from rfl,jm,show ax .eql (29:Int) 29=true from rfl,jm,hpl];rfl
                  · rw [ra,bS,rb,bS]
                    simp only []
                    rw [show ax .neq (29:Int) 0=true from rfl,jm,show ax .eql (29:Int) 29=true from rfl,jm,hpl];rfl
              · exact absurd hL1 (n2 L1)
            · rcases Nh V9 hw ok h8 h60 with ⟨L2,hL2,m2,r2⟩ | ⟨n2,r2⟩
              · exact absurd hL2 (n1 L2)
              · rw [r1,bS,r2,bS]
                simp only []
                have hec:ec≠0:=fun h=>n1 l (c2.1 h)
                rw [show ax .neq (29:Int) 0=true from rfl,Bool.or_self,jm,show ax .eql (29:Int) 29=true from rfl,Bool.and_self,jm,c1,bS,rC,dF hec,Bool.not_false,Bool.and_self,jm,hpl];rfl
          · rw [dF g5,Bool.not_false,jm,hpl];rfl
        · rw [dF g4,Bool.not_false,Bool.not_true,iP,bS,Bool.true_or,jm,hpl];rfl
      · rw [dF g3,Bool.not_false,Bool.not_true,iP,bS,Bool.true_or,Bool.not_true,iP,bS,Bool.true_or,jm,hpl];rfl
end Go.KB
