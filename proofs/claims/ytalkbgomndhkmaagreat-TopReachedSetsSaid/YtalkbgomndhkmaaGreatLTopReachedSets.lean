/- The plain law of TopReachedSets. No condition. -/
import Derived.Test.YtalkbgomndhkmaaGreatPZq
import Derived.ProofKit
namespace Go.KB
set_option linter.unusedVariables false
set_option maxRecDepth 100000
theorem Gt:zi (2 ^ 70)=some true:=by kernel_rfl
theorem Mod_eq {N n:Nat} {x:Int} (hn:0<n) (hl:n<1000000):∃ k:Nat,k<n∧AL N x (n:Int)=some (k:Int):=by
  have h1:x.tmod n<n:=Int.tmod_lt_of_pos x (by omega)
  have h2:-(n:Int)<x.tmod n:=by
    have:=Int.tmod_lt_of_pos (-x) (show (0:Int)<n by omega)
    rw [Int.neg_tmod] at this;omega
  unfold AL YZ
  rw [if_neg (by omega),bS,bH]
  by_cases h:x.tmod n<0
  · rw [dT h, lJ, Y0 (by omega) (by omega)]
    exact ⟨(x.tmod n+n).toNat,by omega,by congr 1;omega⟩
  · rw [dF h,kC]
    exact ⟨(x.tmod n).toNat,by omega,by congr 1;omega⟩
section
variable {N:Nat} {p:GPermitPlan} (hp:Eh p) (hc:lV p=0) (hF:∀ x ∈ p.ai,x.From=0∧x.To=100) (hN:1000000≤N)
include hp hc hN in
theorem Xu {st:List (Str×af)} (hr:yV p 0 (Lr p) (⟨p,0,[]⟩:ah) st [] []) (hg:Wg p 0 (Lr p)):∃ g st' jA pe A,bW (kW N p) N (0,(⟨p,0,[]⟩:ah),st,[],[])=some (Sum.inl (g,st',jA,pe))∧yV p p.bF.length A g st' jA pe∧Wg p p.bF.length A:=by
  have ho:=okP hc
  have hs:=ho.ns
  have key:∃ o,bW (kW N p) N (0,(⟨p,0,[]⟩:ah),st,[],[])=some o∧∃ g st jA pe A,o=Sum.inl (g,st,jA,pe)∧yV p p.bF.length A g st jA pe∧Wg p p.bF.length A:=by
    refine zn (n:=p.bF.length) (fun i s=>s.1=(i:Int)∧∃ A,yV p i A s.2.1 s.2.2.1 s.2.2.2.1 s.2.2.2.2∧Wg p i A) (fun o=>∃ g st jA pe A,o=Sum.inl (g,st,jA,pe)∧yV p p.bF.length A g st jA pe∧Wg p p.bF.length A) ⟨rfl,Lr p,hr,hg⟩ (fun i s hi hs=>?_) (fun s hs=>?_) (by omega)
    · obtain ⟨s1,g,st,jA,pe⟩:=s
      obtain ⟨e1,A,hr,hw⟩:=hs
      simp only [] at e1 hr
      subst e1
      obtain ⟨g',st',xG,Gu,hd,hr'⟩:=Ls hp ho hN hr (by omega) (⟨0,7,[],p.bF[i]!.Name,[],209,0,0⟩:aU)
      obtain ⟨h0,hw'⟩:=hw.step hr.inv hi (e:=(⟨0,7,[],p.bF[i]!.Name,[],209,0,0⟩:aU)) rfl rfl rfl rfl rfl
      refine ⟨(((i+1:Nat):Int),g',st',xG,Gu),?_,rfl,_,hr',hw'⟩
      unfold kW
      simp only []
      rw [bH,dT (by omega),lJ,A7 hi,bS,hd,bS]
      simp only []
      rw [h0,oz,dT rfl,oG (by omega)];rfl
    · obtain ⟨s1,g,st,jA,pe⟩:=s
      obtain ⟨e1,A,hr,hw⟩:=hs
      simp only [] at e1 hr
      subst e1
      refine ⟨Sum.inl (g,st,jA,pe),?_,g,st,jA,pe,A,rfl,hr,hw⟩
      unfold kW
      simp only []
      rw [bH,dF (by omega),kC]
  obtain ⟨o,h1,g,st',jA,pe,A,rfl,h2,h3⟩:=key
  exact ⟨g,st',jA,pe,A,h1,h2,h3⟩
include hp hc hN in
theorem Xv {n0:Nat} (hn0:n0≤100) {g:ah} {st:List (Str×af)} {jA:List (Str×aj)} {pe:List (Str×Str)} {A:AO} (hr:yV p n0 A g st jA pe) (hg:Wa p 0 A):∃ g' st' xG Gu A',bW (kX N p) N (0,g,st,jA,pe)=some (Sum.inl (g',st',xG,Gu))∧yV p (n0+p.ai.length) A' g' st' xG Gu∧Wa p p.ai.length A':=by
  have ho:=okP hc
  have hs:=ho.np
  have key:∃ o,bW (kX N p) N (0,g,st,jA,pe)=some o∧∃ g st jA pe A,o=Sum.inl (g,st,jA,pe)∧yV p (n0+p.ai.length) A g st jA pe∧Wa p p.ai.length A:=by
    refine zn (n:=p.ai.length) (fun i s=>s.1=(i:Int)∧∃ A,yV p (n0+i) A s.2.1 s.2.2.1 s.2.2.2.1 s.2.2.2.2∧Wa p i A) (fun o=>∃ g st jA pe A,o=Sum.inl (g,st,jA,pe)∧yV p (n0+p.ai.length) A g st jA pe∧Wa p p.ai.length A) ⟨rfl,A,hr,hg⟩ (fun i s hi hs=>?_) (fun s hs=>?_) (by omega)
    · obtain ⟨s1,g,st,jA,pe⟩:=s
      obtain ⟨e1,A,hr,hw⟩:=hs
      simp only [] at e1 hr
      subst e1
      obtain ⟨g',st',xG,Gu,hd,hr'⟩:=Ls hp ho hN hr (by omega) (⟨0,1,p.ai[i]!.Name,[],[97,110,110],0,0,0⟩:aU)
      obtain ⟨h0,hw'⟩:=hw.step ho hr.inv hi (e:=(⟨0,1,p.ai[i]!.Name,[],[97,110,110],0,0,0⟩:aU)) rfl rfl rfl rfl
      refine ⟨(((i+1:Nat):Int),g',st',xG,Gu),?_,rfl,_,hr',hw'⟩
      unfold kX
      simp only []
      rw [bH,dT (by omega),lJ,A7 hi,bS,hd,bS]
      simp only []
      rw [h0,oz,dT rfl,oG (by omega)];rfl
    · obtain ⟨s1,g,st,jA,pe⟩:=s
      obtain ⟨e1,A,hr,hw⟩:=hs
      simp only [] at e1 hr
      subst e1
      refine ⟨Sum.inl (g,st,jA,pe),?_,g,st,jA,pe,A,rfl,hr,hw⟩
      unfold kX
      simp only []
      rw [bH,dF (by omega),kC]
  obtain ⟨o,h1,g,st',jA,pe,A,rfl,h2,h3⟩:=key
  exact ⟨g,st',jA,pe,A,h1,h2,h3⟩
theorem Y1 (ho:FB p) {k:Nat} (hk:k<p.ai.length):I5 (FW p.ai[k]!.Name) p.ai=(k:Int):=by
  unfold I5
  have hf:p.ai.findIdx (FW p.ai[k]!.Name)=k:=by
    have h1:p.ai.findIdx (FW p.ai[k]!.Name)<p.ai.length:=List.findIdx_lt_length_of_exists ⟨p.ai[k]!,by rw [wC hk];exact List.getElem_mem _,by unfold FW;rw [decide_eq_true_eq]⟩
    have h2:=List.findIdx_getElem (w:=h1)
    unfold FW at h2
    rw [decide_eq_true_eq] at h2
    refine ho.pd _ _ h1 hk ?_
    rw [wC h1];exact h2
  rw [hf,if_pos hk]
/- what is open while a set is opened -/
def kS (p:GPermitPlan) (s:Str):Bool:=decide ((nR p s).Kind=5)
def JY (p:GPermitPlan) (v:List Str) (r i:Nat) (s:Str):Bool:=(decide (s ∈ v)&&kS p s&&(decide (1≤r)||decide (s ∈ v.take i)))||(decide (r=1)&&decide (s ∈ v.take i))
theorem yj {p:GPermitPlan} {v:List Str} {r i:Nat} {s:Str}:JY p v r i s=true↔(s ∈ v∧kS p s=true∧(1≤r∨s ∈ v.take i))∨(r=1∧s ∈ v.take i):=by
  unfold JY
  simp only [Bool.or_eq_true,Bool.and_eq_true,decide_eq_true_eq,and_assoc]
theorem Wt.congr {S S':Str→Bool} {A:AO} (h:Wt p S A) (e:∀ s,S s=S' s):Wt p S' A:=by
  have:S=S':=funext e
  rw [← this];exact h
/- waiting permits -/
def Wait (p:GPermitPlan) (S:Str→Bool) (A:AO):Prop:=∀ x ∈ p.ai,S x.Name=false→stA A x.Name=1
include hp hc hF hN in
theorem Lu {n0:Nat} (hn0:n0≤200) {v:List Str} (hv:∀ s ∈ v,iU p s=true) (hnd:v.Nodup) (FX:xO p (v.map (nR p))=true) {r:Nat} (hr1:r<2) {g:ah} {st:List (Str×af)} {jA:List (Str×aj)} {pe:List (Str×Str)} {A:AO} (hvl:v.length≤20) {Z:ah×List (Str×af)×List (Str×aj)×List (Str×Str)}
    (hr:yV p n0 A g st jA pe) (hw:Wt p (JY p v r 0) A) (hwt:Wait p (JY p v r 0) A):∃ g' st' xG Gu A',bW (jq N p v ((r:Int),Z)) N (0,g,st,jA,pe)=some (Sum.inl (g',st',xG,Gu))∧yV p (n0+v.length) A' g' st' xG Gu∧Wt p (JY p v r v.length) A'∧Wait p (JY p v r v.length) A':=by
  have ho:=okP hc
  have hs:=ho.np
  obtain ⟨hex,hlk⟩:=I7.1 FX
  have key:∃ o,bW (jq N p v ((r:Int),Z)) N (0,g,st,jA,pe)=some o∧∃ g st jA pe A,o=Sum.inl (g,st,jA,pe)∧yV p (n0+v.length) A g st jA pe∧Wt p (JY p v r v.length) A∧Wait p (JY p v r v.length) A:=by
    refine zn (n:=v.length) (fun i s=>s.1=(i:Int)∧∃ A,yV p (n0+i) A s.2.1 s.2.2.1 s.2.2.2.1 s.2.2.2.2∧Wt p (JY p v r i) A∧Wait p (JY p v r i) A) (fun o=>∃ g st jA pe A,o=Sum.inl (g,st,jA,pe)∧yV p (n0+v.length) A g st jA pe∧Wt p (JY p v r v.length) A∧Wait p (JY p v r v.length) A) ⟨rfl,A,hr,hw,hwt⟩ (fun i s hi hs=>?_) (fun s hs=>?_) (by omega)
    · obtain ⟨s1,g,st,jA,pe⟩:=s
      obtain ⟨e1,A,hr,hw,hwt⟩:=hs
      simp only [] at e1 hr
      subst e1
      have SI:=hv _ (List.getElem_mem hi)
      obtain ⟨hxm,hxn⟩:=nN SI
      obtain ⟨k,hk,hkx⟩:=List.getElem_of_mem hxm
      have hkb:p.ai[k]! = nR p v[i]:=by rw [wC hk];exact hkx
      have hix:qJ N p v[i]=some (k:Int):=by
        rw [Gv (by omega) hN]
        have:=Y1 ho hk
        rw [hkb,hxn] at this
        rw [this]
      have htk:∀ s,s ∈ v.take (i+1)↔s ∈ v.take i∨s=v[i]:=fun s=>by
        rw [List.take_succ_eq_append_getElem hi,List.mem_append,List.mem_singleton]
      have hnot:v[i] ∉ v.take i:=fun h=>by
        obtain ⟨j,hj,hje⟩:=List.getElem_of_mem h
        rw [List.length_take] at hj
        rw [List.getElem_take] at hje
        exact List.pairwise_iff_getElem.1 hnd j i (by omega) hi (by omega) hje
      unfold jq
      simp only []
      rw [bH,dT (by omega),lJ,iW hi,bS,hix,bS,bH,dF (by omega),Bool.not_false,lJ,A7 hk,bS,hkb,Bool.false_or,pW,pW]
      have hxk:kS p v[i]=decide ((nR p v[i]).Kind=5):=rfl
      by_cases hopen:decide ((nR p v[i]).Kind=5)=decide ((r:Int)=0)
      · -- it is opened
        have hfalse:JY p v r i v[i]=false:=by
          cases hq:JY p v r i v[i] with
          | false=>rfl
          | true =>
            rcases yj.1 hq with ⟨_,q2,q3⟩ | ⟨_,q3⟩
            · rcases q3 with q3 | q3
              · rw [hxk,hopen,decide_eq_true_eq] at q2;omega
              · exact absurd q3 hnot
            · exact absurd q3 hnot
        have h1:stA A v[i]=1:=by
          have:=hwt _ hxm (by rw [hxn];exact hfalse)
          rw [hxn] at this;exact this
        have hin:∀ s,JY p v r i s=true→s ∈ v:=fun s hs=>by
          rcases yj.1 hs with ⟨q,_⟩ | ⟨_,q⟩
          · exact q
          · exact List.mem_of_mem_take q
        have hmv:nR p v[i] ∈ v.map (nR p):=List.mem_map.2 ⟨_,List.getElem_mem hi,rfl⟩
        have hc1:∀ k ∈ (nR p v[i]).Locks,stA A k=2:=fun k hk=>by
          obtain ⟨l1,l2,l3⟩:=ho.lk _ hxm k hk
          obtain ⟨m1,m2⟩:=nN l1
          obtain ⟨y,hy,hyk⟩:=hlk _ hmv k hk
          obtain ⟨t,ht,rfl⟩:=List.mem_map.1 hy
          rw [(nN (hv t ht)).2] at hyk
          subst hyk
          have hr0:r=1:=by
            rw [dF l3] at hopen
            have:=(decide_eq_false_iff_not.1 hopen.symm)
            omega
          have:=(hw.op _ m1).2 (by rw [m2];exact yj.2 (.inl ⟨ht,by unfold kS;rw [decide_eq_true_eq];exact l2,.inl (by omega)⟩))
          rw [m2] at this;exact this
        have hc2:∀ y ∈ p.ai,stA A y.Name=2→oW p y (nR p v[i])=false:=fun y hy h2=>by
          have hyv:=hin _ ((hw.op y hy).1 h2)
          exact hex y (List.mem_map.2 ⟨_,hyv,ho.xH hy⟩) _ hmv
        obtain ⟨hdo,hW⟩:=(hw.open ho hF hr.inv hxm (by rw [hxn];exact h1) (e:=(⟨0,2,v[i],[],[98,111,98],0,0,0⟩:aU)) rfl rfl hxn.symm rfl).1 ⟨hc1,hc2⟩
        obtain ⟨g',st',xG,Gu,hd,hr'⟩:=Ls hp ho hN hr (by omega) (⟨0,2,v[i],[],[98,111,98],0,0,0⟩:aU)
        have hsucc:∀ s,(JY p v r i s||decide (s=(nR p v[i]).Name))=JY p v r (i+1) s:=fun s=>by
          rw [hxn,Bool.eq_iff_iff,Bool.or_eq_true,decide_eq_true_eq,yj,yj,htk]
          constructor
          · rintro ((⟨a,b,c⟩ | ⟨a,b⟩) | a)
            · exact .inl ⟨a,b,c.imp id .inl⟩
            · exact .inr ⟨a,.inl b⟩
            · subst a
              by_cases hr0:r=0
              · exact .inl ⟨List.getElem_mem hi,by rw [hxk,hopen,decide_eq_true_eq];omega,.inr (.inr rfl)⟩
              · exact .inr ⟨by omega,.inr rfl⟩
          · rintro (⟨a,b,c⟩ | ⟨a,b⟩)
            · rcases c with c | c | c
              · exact .inl (.inl ⟨a,b,.inl c⟩)
              · exact .inl (.inl ⟨a,b,.inr c⟩)
              · exact .inr c
            · rcases b with b | b
              · exact .inl (.inr ⟨a,b⟩)
              · exact .inr b
        refine ⟨(((i+1:Nat):Int),g',st',xG,Gu),?_,rfl,_,hr',?_,?_⟩
        · rw [hopen, show (decide ((r : Int) = 0) == decide ((r : Int) = 0)) = true by simp, Bool.not_true, kC, bS, hd, bS]
          simp only []
          rw [hdo,oz,dT rfl,oG (by omega)];rfl
        · rw [hdo];exact hW.congr hsucc
        · rw [hdo]
          intro y hy hyf
          rw [← hsucc,hxn,Bool.or_eq_false_iff,decide_eq_false_iff_not] at hyf
          show stA (Ii A (nR p v[i]).Name 2) y.Name=1
          rw [FY,hxn,if_neg hyf.2]
          exact hwt y hy hyf.1
      · -- it is left for the other round
        have hsucc:∀ s,JY p v r i s=JY p v r (i+1) s:=fun s=>by
          rw [Bool.eq_iff_iff,yj,yj,htk]
          have hk2:kS p v[i]=true↔r=1:=by
            rw [hxk]
            by_cases hr0:r=0
            · rw [dT (show (r : Int) = 0 by omega)] at hopen
              exact ⟨fun q=>absurd q hopen,fun q=>by omega⟩
            · rw [dF (show ¬ (r : Int) = 0 by omega)] at hopen
              exact ⟨fun _=>by omega,fun _=>by simpa using hopen⟩
          constructor
          · rintro (⟨a,b,c⟩ | ⟨a,b⟩)
            · exact .inl ⟨a,b,c.imp id .inl⟩
            · exact .inr ⟨a,.inl b⟩
          · rintro (⟨a,b,c⟩ | ⟨a,b⟩)
            · rcases c with c | c | c
              · exact .inl ⟨a,b,.inl c⟩
              · exact .inl ⟨a,b,.inr c⟩
              · subst c;have:=hk2.1 b;exact .inl ⟨a,b,.inl (by omega)⟩
            · rcases b with b | b
              · exact .inr ⟨a,b⟩
              · subst b;exact .inl ⟨List.getElem_mem hi,hk2.2 a,.inl (by omega)⟩
        refine ⟨(((i+1:Nat):Int),g,st,jA,pe),?_,rfl,A,⟨hr.rel,hr.inv,by have:=hr.len;omega⟩,hw.congr hsucc,fun y hy hyf=>hwt y hy (by rw [hsucc];exact hyf)⟩
        have:(decide ((nR p v[i]).Kind=5) == decide ((r:Int)=0))=false:=by simpa using hopen
        rw [this,Bool.not_false,lJ,kC,oG (by omega)]
    · obtain ⟨s1,g,st,jA,pe⟩:=s
      obtain ⟨e1,A,hr,hw,hwt⟩:=hs
      simp only [] at e1 hr
      subst e1
      refine ⟨Sum.inl (g,st,jA,pe),?_,g,st,jA,pe,A,rfl,hr,hw,hwt⟩
      unfold jq
      simp only []
      rw [bH,dF (by omega),kC]
  obtain ⟨o,h1,g,st',jA,pe,A,rfl,h2,h3,h4⟩:=key
  exact ⟨g,st',jA,pe,A,h1,h2,h3,h4⟩
include hp hc hF hN in
theorem QB {n0:Nat} (hn0:n0≤100) {v:List Str} (hv:∀ s ∈ v,iU p s=true) (hnd:v.Nodup) (FX:xO p (v.map (nR p))=true) {g:ah} {st:List (Str×af)} {jA:List (Str×aj)} {pe:List (Str×Str)} {A:AO} (hvl:v.length≤20)
    (hr:yV p n0 A g st jA pe) (hw:Wt p (fun _=>false) A) (hwt:∀ x ∈ p.ai,stA A x.Name=1):∃ g' st' xG Gu A',bW (gJ N p v) N (0,g,st,jA,pe)=some (Sum.inl (g',st',xG,Gu))∧yV p (n0+v.length+v.length) A' g' st' xG Gu∧Wt p (fun s=>decide (s ∈ v)) A'∧Wait p (fun s=>decide (s ∈ v)) A':=by
  have e0:∀ s,false=JY p v 0 0 s:=fun s=>by
    cases hq:JY p v 0 0 s with
    | false=>rfl
    | true =>
      rcases yj.1 hq with ⟨_,_,q | q⟩ | ⟨q,_⟩
      · omega
      · cases q
      · omega
  have e1:∀ s,JY p v 0 v.length s=JY p v 1 0 s:=fun s=>by
    rw [Bool.eq_iff_iff,yj,yj,List.take_length]
    constructor
    · rintro (⟨a,b,_⟩ | ⟨a,_⟩)
      · exact .inl ⟨a,b,.inl (Nat.le_refl _)⟩
      · omega
    · rintro (⟨a,b,_⟩ | ⟨_,b⟩)
      · exact .inl ⟨a,b,.inr a⟩
      · cases b
  have e2:∀ s,JY p v 1 v.length s=decide (s ∈ v):=fun s=>by
    rw [Bool.eq_iff_iff,yj,decide_eq_true_eq,List.take_length]
    exact ⟨fun q=>q.elim (fun q=>q.1) fun q=>q.2,fun q=>.inr ⟨rfl,q⟩⟩
  obtain ⟨M,rfl⟩:∃ m,N=m+3:=⟨N - 3,by omega⟩
  obtain ⟨g1,st1,OY,pe1,A1,h1,hr1,hw1,hwt1⟩:=Lu hp hc hF hN (by omega) hv hnd FX (r:=0) (by omega) hvl (Z:=(g,st,jA,pe)) hr (hw.congr e0) (fun x hx _=>hwt x hx)
  obtain ⟨g2,st2,QC,Zu,A2,h2,hr2,hw2,hwt2⟩:=Lu hp hc hF hN (by omega) hv hnd FX (r:=1) (by omega) hvl (Z:=(g1,st1,OY,pe1)) hr1 (hw1.congr e1) (fun x hx hf=>hwt1 x hx (by rw [e1];exact hf))
  have f0:gJ (M+3) p v (0,g,st,jA,pe)=some (.inl (1,g1,st1,OY,pe1)):=by
    unfold gJ
    simp only []
    rw [bH,dT (by decide),lJ]
    have h1':bW (jq (M+3) p v (0,g,st,jA,pe)) (M+3) (0,g,st,jA,pe)=some (Sum.inl (g1,st1,OY,pe1)):=h1
    rw [h1',bS];rfl
  have f1:gJ (M+3) p v (1,g1,st1,OY,pe1)=some (.inl (2,g2,st2,QC,Zu)):=by
    unfold gJ
    simp only []
    rw [bH,dT (by decide),lJ]
    have h2':bW (jq (M+3) p v (1,g1,st1,OY,pe1)) (M+3) (0,g1,st1,OY,pe1)=some (Sum.inl (g2,st2,QC,Zu)):=h2
    rw [h2',bS];rfl
  have f2:gJ (M+3) p v (2,g2,st2,QC,Zu)=some (.inr (Sum.inl (g2,st2,QC,Zu))):=by
    unfold gJ
    simp only []
    rw [bH,dF (by decide),kC]
  refine ⟨g2,st2,QC,Zu,A2,?_,hr2,hw2.congr e2,fun x hx hf=>hwt2 x hx (by rw [e2];exact hf)⟩
  rw [bW,f0]
  show bW (gJ (M+3) p v) (M+1+1) _=_
  rw [bW,f1]
  show bW (gJ (M+3) p v) (M+1) _=_
  rw [bW,f2]
include hp hc hF hN in
theorem U5 {n0:Nat} (hn0:n0≤200) {v:List Str} (hv:∀ s ∈ v,iU p s=true) (hnd:v.Nodup) (FX:xO p (v.map (nR p))=true) {g:ah} {st:List (Str×af)} {jA:List (Str×aj)} {pe:List (Str×Str)} {A:AO} (hvl:v.length≤20)
    (hr:yV p n0 A g st jA pe) (hw:Wt p (fun s=>decide (s ∈ v)) A) (hwt:Wait p (fun s=>decide (s ∈ v)) A):∃ g' st' xG Gu A',bW (kY N p v) N (0,g,st,jA,pe)=some (Sum.inl (g',st',xG,Gu))∧yV p (n0+2 * p.ai.length) A' g' st' xG Gu∧Wt p (fun s=>decide (s ∈ v)) A':=by
  have hlim:lim ≥ 10000000:=by decide
  have ho:=okP hc
  have hs:=ho.np
  obtain ⟨hex,hlk⟩:=I7.1 FX
  have key:∃ o,bW (kY N p v) N (0,g,st,jA,pe)=some o∧∃ g st jA pe A,o=Sum.inl (g,st,jA,pe)∧yV p (n0+2 * p.ai.length) A g st jA pe∧Wt p (fun s=>decide (s ∈ v)) A:=by
    refine zn (n := p.ai.length) (fun i s => s.1 = (i : Int) ∧ ∃ A, yV p (n0 + 2 * i) A s.2.1 s.2.2.1 s.2.2.2.1 s.2.2.2.2 ∧ Wt p (fun s => decide (s ∈ v)) A ∧ ∀ j, i ≤ j → j < p.ai.length → p.ai[j]!.Name ∉ v → stA A p.ai[j]!.Name = 1) (fun o => ∃ g st jA pe A, o = Sum.inl (g, st, jA, pe) ∧ yV p (n0 + 2 * p.ai.length) A g st jA pe ∧ Wt p (fun s => decide (s ∈ v)) A)
      ⟨rfl,A,hr,hw,fun j _ hj hn=>hwt _ (by rw [wC hj];exact List.getElem_mem _) (dF hn)⟩ (fun i s hi hs=>?_) (fun s hs=>?_) (by omega)
    · obtain ⟨s1,g,st,jA,pe⟩:=s
      obtain ⟨e1,A,hr,hw,hwt⟩:=hs
      simp only [] at e1 hr
      subst e1
      have hx:p.ai[i]! ∈ p.ai:=by rw [wC hi];exact List.getElem_mem _
      have hh:iU p p.ai[i]!.Name=true:=uN.2 ⟨_,hx,rfl⟩
      have hop:=hw.op _ hx
      rw [decide_eq_true_eq] at hop
      have hne:∀ j,j<p.ai.length→j≠i→p.ai[j]!.Name≠p.ai[i]!.Name:=fun j hj hji q=>hji (ho.pd j i hj hi q)
      unfold kY
      simp only []
      rw [bH,dT (by omega),lJ,A7 hi,bS,Xw hr.rel,hh,lJ,bS]
      simp only []
      rw [oz,dT rfl,Bool.not_true,Bool.false_or,pW]
      by_cases h2:stA A p.ai[i]!.Name=2
      · refine ⟨(((i + 1 : Nat) : Int), g, st, jA, pe), ?_, rfl, A, ⟨hr.rel, hr.inv, by have := hr.len; omega⟩, hw, fun j hj hjl => hwt j (by omega) hjl⟩
        rw [dT h2,lJ,oG (by omega)]
      · have hnv : p.ai[i]!.Name ∉ v := fun q => h2 (hop.2 q)
        have h1:=hwt i (Nat.le_refl _) hi hnv
        rw [dF h2,kC,Cc (by simp only [List.length_nil];omega),bS,List.nil_append,bS,Cc (by simp only [List.length_singleton];omega),bS,MV hp (by simp only [List.length_append,List.length_singleton];omega) hN]
        obtain ⟨g1,st1,OY,pe1,hd1,hr1⟩:=Ls hp ho hN hr (by omega) (⟨0,2,p.ai[i]!.Name,[],[98,111,98],0,0,0⟩:aU)
        obtain ⟨hyes,hno⟩:=hw.open ho hF hr.inv hx h1 (e:=(⟨0,2,p.ai[i]!.Name,[],[98,111,98],0,0,0⟩:aU)) rfl rfl rfl rfl
        have hmem:∀ y ∈ p.ai,(stA A y.Name=2↔y.Name ∈ v):=fun y hy=>by
          have:=hw.op y hy
          rw [decide_eq_true_eq] at this;exact this
        have hcomp:Uh p (v ++ [p.ai[i]!.Name])=(decide ((∀ k ∈ p.ai[i]!.Locks,stA A k=2)∧(∀ y ∈ p.ai,stA A y.Name=2→oW p y p.ai[i]! = false)),0):=by
          have hz:=SL (p:=p) (l:=v ++ [p.ai[i]!.Name]) (fun s hs=>by
            rcases List.mem_append.1 hs with q | q
            · exact hv s q
            · rw [List.mem_singleton.1 q];exact hh) (List.nodup_append.2 ⟨hnd,by simp,fun a ha b hb q=>by rw [List.mem_singleton] at hb;subst hb;subst q;exact hnv ha⟩)
          unfold Uh
          rw [if_neg (by simp [hc]),if_pos hz]
          congr 1
          rw [Bool.eq_iff_iff,decide_eq_true_eq,I7]
          have hmm:∀ x,x ∈ (v ++ [p.ai[i]!.Name]).map (nR p)↔x ∈ v.map (nR p)∨x=p.ai[i]!:=fun x=>by
            rw [List.map_append,List.mem_append,List.map_singleton,List.mem_singleton,ho.xH hx]
          constructor
          · rintro ⟨q1,q2⟩
            refine ⟨fun k hk=>?_,fun y hy h2y=>?_⟩
            · obtain ⟨l1,l2,l3⟩:=ho.lk _ hx k hk
              obtain ⟨y,hy,hyk⟩:=q2 _ ((hmm _).2 (.inr rfl)) k hk
              rcases (hmm y).1 hy with q | q
              · obtain ⟨t,ht,rfl⟩:=List.mem_map.1 q
                obtain ⟨m1,m2⟩:=nN (hv t ht)
                rw [m2] at hyk;subst hyk
                have:=(hmem _ m1).2 (by rw [m2];exact ht)
                rw [m2] at this;exact this
              · subst q
                rw [← hyk,ho.xH hx] at l2
                exact absurd l2 l3
            · exact q1 y ((hmm y).2 (.inl (List.mem_map.2 ⟨_,(hmem y hy).1 h2y,ho.xH hy⟩))) _ ((hmm _).2 (.inr rfl))
          · rintro ⟨q1,q2⟩
            have hv2:∀ y ∈ v.map (nR p),y ∈ p.ai∧stA A y.Name=2:=fun y hy=>by
              obtain ⟨t,ht,rfl⟩:=List.mem_map.1 hy
              obtain ⟨m1,m2⟩:=nN (hv t ht)
              exact ⟨m1,(hmem _ m1).2 (by rw [m2];exact ht)⟩
            refine ⟨fun a ha b hb=>?_,fun a ha k hk=>?_⟩
            · rcases (hmm a).1 ha with qa | qa <;> rcases (hmm b).1 hb with qb | qb
              · exact hex a qa b qb
              · subst qb;obtain ⟨m1,m2⟩:=hv2 a qa;exact q2 a m1 m2
              · subst qa;obtain ⟨m1,m2⟩:=hv2 b qb;rw [DW];exact q2 b m1 m2
              · subst qa;rw [qb];exact LC p _
            · rcases (hmm a).1 ha with qa | qa
              · obtain ⟨y,hy,hyk⟩:=hlk a qa k hk
                exact ⟨y,(hmm y).2 (.inl hy),hyk⟩
              · subst qa
                obtain ⟨l1,_,_⟩:=ho.lk _ hx k hk
                obtain ⟨m1,m2⟩:=nN l1
                have:=(hmem _ m1).1 (by rw [m2];exact q1 k hk)
                rw [m2] at this
                exact ⟨nR p k,(hmm _).2 (.inl (List.mem_map.2 ⟨k,this,rfl⟩)),m2⟩
        rw [hcomp,bS,bS,hd1,bS]
        simp only []
        rw [oz,dT rfl,Bool.not_true,Bool.false_or,pW]
        by_cases hq:(∀ k ∈ p.ai[i]!.Locks,stA A k=2)∧(∀ y ∈ p.ai,stA A y.Name=2→oW p y p.ai[i]! = false)
        · obtain ⟨hdo,hW⟩:=hyes hq
          have hA1:(xA p A (⟨0,2,p.ai[i]!.Name,[],[98,111,98],0,0,0⟩:aU)).1={ Ii A p.ai[i]!.Name 2 with done:=A.done ++ [(⟨0,2,p.ai[i]!.Name,[],[98,111,98],0,0,0⟩:aU)] }:=by rw [hdo]
          have hE1:(xA p A (⟨0,2,p.ai[i]!.Name,[],[98,111,98],0,0,0⟩:aU)).2.2=0:=by rw [hdo]
          rw [dT hq,hE1,dT rfl]
          simp only [beq_self_eq_true,Bool.not_true,kC,lJ]
          rw [bS]
          rw [hA1] at hr1
          have hst1:∀ s,stA ({ Ii A p.ai[i]!.Name 2 with done:=A.done ++ [(⟨0,2,p.ai[i]!.Name,[],[98,111,98],0,0,0⟩:aU)] }:AO) s=if s=p.ai[i]!.Name then 2 else stA A s:=fun s=>FY
          obtain ⟨g2,st2,QC,Zu,hd2,hr2⟩:=Ls hp ho hN hr1 (by omega) (⟨0,3,p.ai[i]!.Name,[],[],0,0,0⟩:aU)
          obtain ⟨hdo2,hW2⟩:=hW.suspend ho hr1.inv hx (by rw [hst1,if_pos rfl]) (fun y hy h2y hny hkl=>by
            rw [hst1,if_neg hny] at h2y
            have hyv:=(hmem y hy).1 h2y
            obtain ⟨z,hz,hzk⟩:=hlk y (List.mem_map.2 ⟨_,hyv,ho.xH hy⟩) _ hkl
            obtain ⟨t,ht,rfl⟩:=List.mem_map.1 hz
            rw [(nN (hv t ht)).2] at hzk
            rw [hzk] at ht
            exact hnv ht) (e:=(⟨0,3,p.ai[i]!.Name,[],[],0,0,0⟩:aU)) rfl rfl rfl
          refine ⟨(((i+1:Nat):Int),g2,st2,QC,Zu),?_,rfl,_,hr2,?_,?_⟩
          · rw [hd2,bS]
            simp only []
            rw [hdo2,oz,dT rfl,oG (by omega)];rfl
          · rw [hdo2]
            refine hW2.congr fun s=>?_
            by_cases hsn:s=p.ai[i]!.Name
            · subst hsn;rw [dF hnv,dT rfl];rfl
            · rw [dF hsn,Bool.or_false,Bool.not_false,Bool.and_true]
          · rw [hdo2]
            intro j hj hjl hjn
            show stA (Ii { Ii A p.ai[i]!.Name 2 with done:=A.done ++ [(⟨0,2,p.ai[i]!.Name,[],[98,111,98],0,0,0⟩:aU)] } p.ai[i]!.Name 3) p.ai[j]!.Name=1
            rw [FY,if_neg (hne j hjl (by omega)),hst1,if_neg (hne j hjl (by omega))]
            exact hwt j (by omega) hjl hjn
        · obtain ⟨hA1,hE1⟩:=hno hq
          rw [hA1] at hr1
          refine ⟨(((i+1:Nat):Int),g1,st1,OY,pe1),?_,rfl,A,⟨hr1.rel,hr1.inv,by have:=hr1.len;omega⟩,hw,fun j hj hjl=>hwt j (by omega) hjl⟩
          rw [dF hq,dF hE1]
          simp only [beq_self_eq_true,Bool.not_true,kC]
          rw [oG (by omega)]
    · obtain ⟨s1,g,st,jA,pe⟩:=s
      obtain ⟨e1,A,hr,hw,_⟩:=hs
      simp only [] at e1 hr
      subst e1
      refine ⟨Sum.inl (g,st,jA,pe),?_,g,st,jA,pe,A,rfl,hr,hw⟩
      unfold kY
      simp only []
      rw [bH,dF (by omega),kC]
  obtain ⟨o,h1,g,st',jA,pe,A,rfl,h2,h3⟩:=key
  exact ⟨g,st',jA,pe,A,h1,h2,h3⟩
end
theorem U6 {N:Nat} {p:GPermitPlan} (hl:p.ai.length≤100) (hN:1000000≤N):bW (kU N p) N (({ p with ai:=([]:(List aA)) }:GPermitPlan),0)=some (tq p):=by
  have hlim:lim ≥ 10000000:=by decide
  have hfl:∀ (l:List aA) (q:GPermitPlan),l.foldl (fun (q:GPermitPlan) y=>({ q with ai:=q.ai ++ [Et y] }:GPermitPlan)) q={ q with ai:=q.ai ++ l.map Et }:=by
    intro l
    induction l with
    | nil=>intro q;simp
    | cons y l ih=>intro q;rw [List.foldl_cons,ih];simp
  rw [Gw (N:=N) (f:=kU N p) p.ai ({ p with ai:=([]:(List aA)) }:GPermitPlan) (fun (q:GPermitPlan) y=>({ q with ai:=q.ai ++ [Et y] }:GPermitPlan)) (fun t i=>(t,i)) (fun t=>t) (fun i hi t ht=>?_) (fun t=>?_) (by omega)]
  · rw [hfl];rfl
  · have htl:t.ai.length≤100:=by
      rw [ht,hfl]
      simp only [List.nil_append,List.length_map,List.length_take];omega
    unfold kU
    simp only []
    rw [bH,dT (by omega),lJ,iW hi,bS,Cc (by simp only [List.length_singleton];omega),bS,oG (by omega)];rfl
  · unfold kU
    simp only []
    rw [bH,dF (by omega),kC]
theorem law_TopReachedSets (x0:GPermitPlan) (x1:Int) (h0:x0.ok) (h1:gI .i64 x1):sK (2 ^ 70) x0 x1=some true:=by
  have hN:1000000≤2 ^ 70:=by decide
  have hN2:(2:Nat) ^ 70=1180591620717411303424:=by decide
  unfold sK BJ
  rcases fit_eq x0 hN with hf | ⟨hf,hp0,hc0,hsl,hpl,hxl⟩
  · rw [hf,Gt];rfl
  rw [hf,bS,bS,Bool.not_true,Bool.false_or,rY]
  by_cases hl:(5:Int)<x0.ai.length
  · rw [dT hl,lJ,Gt];rfl
  rw [dF hl,kC,U6 (by omega) hN,bS]
  have hp:=hp0.set
  have hc:=U7 hc0
  have hF:=U8 (p:=x0)
  have hlen:=FC (p:=x0)
  have hspl:(tq x0).bF.length≤8:=hsl
  generalize tq x0=p at hp hc hF hlen hspl
  have ho:=okP hc
  have hn10:p.ai.length≤10:=by omega
  have hss:=QD hn10
  have hne:0<(A8 p).length:=by
    obtain ⟨m,hm⟩:=List.exists_mem_of_ne_nil _ (U9 (p:=p))
    exact List.length_pos_of_mem (List.mem_filter.1 hm).1
  rw [OZ hp hN hn10 hc,bS]
  simp only []
  rw [oz,dT rfl,pW,List.length_map,dF (by omega)]
  simp only [Bool.not_true,Bool.or_self,kC]
  obtain ⟨k,hk,hm⟩:=Mod_eq (N:=2 ^ 70) (x:=x1) (n:=(A8 p).length) hne (by omega)
  rw [hm,bS,iW (by rw [List.length_map];exact hk),List.getElem_map,bS]
  obtain ⟨b,hb1,hb2,hb3⟩:=QE (FD.1 (List.getElem_mem hk))
  have hnm:Ij p (A8 p)[k]=Ij p (stB p.ai.length b):=by rw [hb3];rfl
  rw [hnm]
  have hv:=nm_has (p:=p) (b:=b)
  have hnd:=Xx ho (b:=b)
  have FX:xO p ((Ij p (stB p.ai.length b)).map (nR p))=true:=by rw [Xy ho];exact hb2
  have hvl:(Ij p (stB p.ai.length b)).length≤10:=by
    unfold Ij stB
    rw [List.length_map,List.length_map]
    exact Nat.le_trans Gx hn10
  have hopen:∀ A,Wt p (fun s=>decide (s ∈ Ij p (stB p.ai.length b))) A→mr p A (fun _=>true)=Ij p (stB p.ai.length b):=fun A hw=>by
    have e1:mr p A (fun _=>true)=(p.ai.filter fun x=>decide (x.Name ∈ Ij p (stB p.ai.length b))).map fun x=>x.Name:=by
      unfold mr
      congr 1
      refine List.filter_congr fun x hx=>?_
      rw [Bool.and_true]
      have:=hw.op x hx
      rw [decide_eq_true_eq] at this
      exact decide_eq_decide.2 this
    have e2:p.ai.filter (fun x=>decide (x.Name ∈ Ij p (stB p.ai.length b)))=uX p b:=by
      rw [← Gy]
      unfold uX tu
      congr 1
      refine List.filter_congr fun i hi=>?_
      have hi:=List.mem_range.1 hi
      rw [Bool.eq_iff_iff,decide_eq_true_eq,Xz]
      constructor
      · rintro ⟨j,j1,j2,j3⟩
        rw [← ho.pd j i j1 hi j3];exact j2
      · exact fun q=>⟨i,hi,q,rfl⟩
    rw [e1,e2]
    unfold uX Ij stB
    rw [List.map_map,List.map_map]
    exact List.map_congr_left fun i _=>by simp
  generalize Ij p (stB p.ai.length b)=v at hv hnd FX hvl hopen
  obtain ⟨st,hn,hr⟩:=Y2 hp hc hN
  rw [hn,bS]
  simp only [Ou]
  rw [oz,dT rfl]
  simp only [Bool.not_true,Bool.or_self,kC]
  have hsp:=ho.ns
  have hnp:=ho.np
  obtain ⟨g1,st1,OY,pe1,A1,q1,hr1,hw1⟩:=Xu hp hc hN hr (Wg.new hF)
  rw [q1,bS]
  simp only [Sum.elim_inl]
  obtain ⟨g2,st2,QC,Zu,A2,q2,hr2,hw2⟩:=Xv hp hc hN (by omega) hr1 hw1.fin
  rw [q2,bS]
  simp only [Sum.elim_inl]
  obtain ⟨w1,w2⟩:=hw2.fin
  obtain ⟨g3,st3,air3,pe3,A3,q3,hr3,hw3,hwt3⟩:=QB hp hc hF hN (by omega) hv hnd FX (by omega) hr2 w1 w2
  rw [q3,bS]
  simp only [Sum.elim_inl]
  rw [Ui hp hN hr3.rel,bS,hopen A3 hw3,NM (by omega) hN,dT rfl,bS,Bool.not_true,kC]
  obtain ⟨g4,st4,air4,pe4,A4,q4,hr4,hw4⟩:=U5 hp hc hF hN (by omega) hv hnd FX (by omega) hr3 hw3 hwt3
  rw [q4,bS]
  simp only [Sum.elim_inl]
  rw [Ui hp hN hr4.rel,bS,hopen A4 hw4,NM (by omega) hN,dT rfl,bS,lJ,Gt];rfl
end Go.KB
