/- The plain law of PermitLog. No condition. -/
import Derived.Test.YtochfcfkpachcaaGreatDoorPLg5
namespace Go.KB
set_option linter.unusedVariables false
theorem Xx {N:Nat} {p:GPermitPlan} {A:AO} {g:af} {st:List (Str×ah)} {mP:List (Str×ai)} {pe:List (Str×Str)} (h:RelA p A g st mP pe) (hl:A.done.length<1000000):pz N g st mP pe=some A.done:=by
  have hlim:lim ≥ 10000000:=by decide
  unfold pz jU
  rw [h.done,FQ (by simp only [List.length_nil];omega)];rfl
/- an accepted event can be written -/
theorem Gx {p:GPermitPlan} (hp:H6 p) {s:Str} (h:lZ p s=true):iI s=true:=by
  obtain ⟨x,hx,rfl⟩:=BZ.1 h
  exact hp.pn x hx
theorem RU {p:GPermitPlan} (hp:H6 p) {s:Str} (h:yg p s=true):iI s=true:=by
  obtain ⟨x,hx,rfl⟩:=Y2.1 h
  exact hp.sn x hx
theorem Gy {p:GPermitPlan} {A:AO} {x:GEvent} {l:List Int} (hs:Aj x.Op=some l) (h:(yI p A x).2.2=0):lZ p x.Name=true∧l.contains (stA A x.Name)=true∧(FT p A x).2.2=0:=by
  unfold yI at h
  rw [hs] at h
  simp only [] at h
  cases h1:lZ p x.Name with
  | false=>rw [h1] at h;exact absurd (show (6:Int)=0 from h) (by decide)
  | true =>
    rw [h1] at h
    simp only [Bool.not_true,nN] at h
    cases h2:l.contains (stA A x.Name) with
    | false=>rw [h2] at h;exact absurd (show (18:Int)=0 from h) (by decide)
    | true=>rw [h2] at h;exact ⟨rfl,rfl,h⟩
theorem Kv {p:GPermitPlan} {A:AO} {x:GEvent} (hs:Aj x.Op=none):yI p A x=FT p A x:=by
  unfold yI;rw [hs]
theorem Uc {p:GPermitPlan} {A:AO} {x:GEvent} (h:(xR p A x).2.2=0):iI x.Person=true:=by
  unfold xR at h
  cases hn:iI x.Person with
  | true=>rfl
  | false=>rw [hn] at h;exact absurd (show (4:Int)=0 from h) (by decide)
theorem jJk {p:GPermitPlan} (hp:H6 p) {A:AO} {x:GEvent} (h0:0≤x.Op) (h1:x.Op<12) (h2:inT x.At) (hA:∀ s,lZ p s=true→stA A s≤3→0≤(A.es s).wo) (h:(yI p A x).2.2=0):OkX x:=by
  refine ⟨h0,h1,h2,?_⟩
  obtain ⟨at_,op,nm,sp,pe,ox,ga,wo⟩:=x
  simp only [] at h0 h1 h2
  rcases Xy h0 h1 with rfl | rfl | rfl | rfl | rfl | rfl | rfl | rfl | rfl | rfl | rfl | rfl
  · intro c hc;cases hc
  · obtain ⟨k1,_,k3⟩:=Gy (l:=[0]) rfl h
    have hpe:iI pe=true:=by
      cases hn:iI pe with
      | true=>rfl
      | false =>
        have k3:(vG A ⟨at_,1,nm,sp,pe,ox,ga,wo⟩).2.2=0:=k3
        unfold vG at k3;simp only [] at k3;rw [hn] at k3;exact absurd (show (4:Int)=0 from k3) (by decide)
    intro c hc
    rcases List.mem_cons.1 (show c ∈ ([110,112]:Str) from hc) with rfl | hc
    · exact .inr (.inr (.inr (.inl ⟨rfl,Gx hp k1⟩)))
    · rw [List.mem_singleton] at hc;subst hc;exact .inr (.inr (.inr (.inr (.inl ⟨rfl,hpe⟩))))
  · obtain ⟨k1,_,k3⟩:=Gy (l:=[1]) rfl h
    have hpe:iI pe=true:=Uc (x:=⟨at_,2,nm,sp,pe,ox,ga,wo⟩) k3
    intro c hc
    rcases List.mem_cons.1 (show c ∈ ([110,112]:Str) from hc) with rfl | hc
    · exact .inr (.inr (.inr (.inl ⟨rfl,Gx hp k1⟩)))
    · rw [List.mem_singleton] at hc;subst hc;exact .inr (.inr (.inr (.inr (.inl ⟨rfl,hpe⟩))))
  · obtain ⟨k1,_,k3⟩:=Gy (l:=[2]) rfl h
    intro c hc
    have hc:=List.mem_singleton.1 (show c ∈ ([110]:Str) from hc)
    subst hc;exact .inr (.inr (.inr (.inl ⟨rfl,Gx hp k1⟩)))
  · obtain ⟨k1,_,k3⟩:=Gy (l:=[3]) rfl h
    have hpe:iI pe=true:=Uc (x:=⟨at_,4,nm,sp,pe,ox,ga,wo⟩) k3
    intro c hc
    rcases List.mem_cons.1 (show c ∈ ([110,112]:Str) from hc) with rfl | hc
    · exact .inr (.inr (.inr (.inl ⟨rfl,Gx hp k1⟩)))
    · rw [List.mem_singleton] at hc;subst hc;exact .inr (.inr (.inr (.inr (.inl ⟨rfl,hpe⟩))))
  · obtain ⟨k1,_,k3⟩:=Gy (l:=[2,3]) rfl h
    intro c hc
    have hc:=List.mem_singleton.1 (show c ∈ ([110]:Str) from hc)
    subst hc;exact .inr (.inr (.inr (.inl ⟨rfl,Gx hp k1⟩)))
  · obtain ⟨k1,_,k3⟩:=Gy (l:=[0,1]) rfl h
    intro c hc
    have hc:=List.mem_singleton.1 (show c ∈ ([110]:Str) from hc)
    subst hc;exact .inr (.inr (.inr (.inl ⟨rfl,Gx hp k1⟩)))
  · rw [Kv rfl] at h
    have h:(Kw p A ⟨at_,7,nm,sp,pe,ox,ga,wo⟩).2.2=0:=h
    unfold Kw at h
    simp only [] at h
    cases hs:yg p sp with
    | false=>rw [hs] at h;exact absurd (show (6:Int)=0 from h) (by decide)
    | true =>
      rw [hs] at h
      simp only [Bool.not_true,nN] at h
      by_cases hr:ox<0∨1000<ox∨ga<0∨1000<ga
      · have:(decide (ox<0)||decide (1000<ox)||decide (ga<0)||decide (1000<ga))=true:=by
          simp only [Bool.or_eq_true,decide_eq_true_eq]
          rcases hr with q | q | q | q <;> simp [q]
        rw [this] at h;exact absurd (show (2:Int)=0 from h) (by decide)
      · intro c hc
        rcases List.mem_cons.1 (show c ∈ ([115,111,103]:Str) from hc) with rfl | hc
        · exact .inr (.inr (.inr (.inr (.inr ⟨rfl,RU hp hs⟩))))
        · rcases List.mem_cons.1 hc with rfl | hc
          · exact .inl ⟨rfl,show 0≤ox by omega,show ox≤1000000 by omega⟩
          · rw [List.mem_singleton] at hc;subst hc;exact .inr (.inl ⟨rfl,show 0≤ga by omega,show ga≤1000000 by omega⟩)
  · rw [Kv rfl] at h
    have h:(Ak p A ⟨at_,8,nm,sp,pe,ox,ga,wo⟩).2.2=0:=h
    unfold Ak at h
    simp only [] at h
    cases hn:iI pe with
    | false=>rw [hn] at h;exact absurd (show (4:Int)=0 from h) (by decide)
    | true =>
      rw [hn] at h
      cases hs:yg p sp with
      | false=>rw [hs] at h;exact absurd (show (6:Int)=0 from h) (by decide)
      | true =>
        intro c hc
        rcases List.mem_cons.1 (show c ∈ ([112,115]:Str) from hc) with rfl | hc
        · exact .inr (.inr (.inr (.inr (.inl ⟨rfl,hn⟩))))
        · rw [List.mem_singleton] at hc;subst hc;exact .inr (.inr (.inr (.inr (.inr ⟨rfl,RU hp hs⟩))))
  · rw [Kv rfl] at h
    have h:(Am A ⟨at_,9,nm,sp,pe,ox,ga,wo⟩).2.2=0:=h
    unfold Am at h
    simp only [] at h
    cases hn:iI pe with
    | false=>rw [hn] at h;exact absurd (show (4:Int)=0 from h) (by decide)
    | true =>
      intro c hc
      have hc:=List.mem_singleton.1 (show c ∈ ([112]:Str) from hc)
      subst hc;exact .inr (.inr (.inr (.inr (.inl ⟨rfl,hn⟩))))
  · rw [Kv rfl] at h
    have h:(Ap p A ⟨at_,10,nm,sp,pe,ox,ga,wo⟩).2.2=0:=h
    unfold Ap at h
    simp only [] at h
    cases hs:yg p sp with
    | false=>rw [hs] at h;exact absurd (show (6:Int)=0 from h) (by decide)
    | true =>
      intro c hc
      have hc:=List.mem_singleton.1 (show c ∈ ([115]:Str) from hc)
      subst hc;exact .inr (.inr (.inr (.inr (.inr ⟨rfl,RU hp hs⟩))))
  · obtain ⟨k1,k2,k3⟩:=Gy (l:=[1,2,3]) rfl h
    have k1:lZ p nm=true:=k1
    have k3:(xZ A ⟨at_,11,nm,sp,pe,ox,ga,wo⟩).2.2=0:=k3
    unfold xZ at k3
    simp only [] at k3
    cases hn:iI pe with
    | false=>rw [hn] at k3;exact absurd (show (4:Int)=0 from k3) (by decide)
    | true =>
      rw [hn] at k3
      simp only [Bool.not_true,nN] at k3
      have hst:stA A nm≤3:=by
        have k2:([1,2,3]:List Int).contains (stA A nm)=true:=k2
        simp at k2;omega
      have h00:=hA nm k1 hst
      by_cases hr:wo≤(A.es nm).wo∨1000000<wo
      · have:(decide (wo≤(A.es nm).wo)||decide (1000000<wo))=true:=by
          simp only [Bool.or_eq_true,decide_eq_true_eq];exact hr
        rw [this] at k3;exact absurd (show (2:Int)=0 from k3) (by decide)
      · intro c hc
        rcases List.mem_cons.1 (show c ∈ ([110,112,116]:Str) from hc) with rfl | hc
        · exact .inr (.inr (.inr (.inl ⟨rfl,Gx hp k1⟩)))
        · rcases List.mem_cons.1 hc with rfl | hc
          · exact .inr (.inr (.inr (.inr (.inl ⟨rfl,hn⟩))))
          · rw [List.mem_singleton] at hc;subst hc;exact .inr (.inr (.inl ⟨rfl,show 0≤wo by omega,show wo≤1000000 by omega⟩))
/- the run of an office, and its log -/
structure Vq (p:GPermitPlan) (A:AO):Prop where
  m:∃ m,Sim p A m∧sH p (Eu p) (A.done.map KI)=(m,A.done.length,0)
  x:∀ e ∈ A.done,OkX e
theorem jJw {p:GPermitPlan} (hp:H6 p):Vq p (Eu p):=⟨⟨Eu p,jJy hp,rfl⟩,fun e he=>by cases he⟩
theorem log_do {p:GPermitPlan} (hp:H6 p) {A:AO} (h:Vq p A) (hi:RV p A) (x:GEvent):Vq p (zL p A x).1:=by
  obtain ⟨⟨m,hs,hm⟩,hx⟩:=h
  rcases sim_do hp hs x with ⟨_,k2,k3⟩ | ⟨k1,o0,o1,t0,t1,kd,km,ks,ka⟩
  · exact ⟨⟨m,k2,by rw [k3];exact hm⟩,by rw [k3];exact hx⟩
  · have hox:OkX x:=by
      refine jJk hp (A:=Dc p A x.At) o0 o1 ⟨t0,t1⟩ (fun s h1 h2=>?_) ka
      have:=QC (p:=p) (A:={ A with now:=x.At }) h1 h2
      have e:({ A with now:=x.At }:AO).now=x.At:=rfl
      rw [e] at this
      show 0≤((ig p { A with now:=x.At }).es s).wo
      omega
    refine ⟨⟨(zL p m (KI x)).1,ks,?_⟩,?_⟩
    · rw [kd,List.map_append,List.map_singleton]
      have:=OJ (p:=p) (x:=KI x) (l:=A.done.map KI) (A:=Eu p) (B:=m) (by rw [hm,List.length_map]) km
      rw [this,List.length_map,List.length_append];rfl
    · rw [kd]
      intro e he
      rcases List.mem_append.1 he with he | he
      · exact hx e he
      · rw [List.mem_singleton] at he;rw [he];exact hox
theorem Y3 {p:GPermitPlan} (hp:H6 p) {A:AO} (h:Vq p A) (hi:RV p A):∃ d,sH p (Eu p) (A.done.map KI ++ [⟨A.now,0,[],[],[],0,0,0⟩])=(wd A d,A.done.length+1,0):=by
  obtain ⟨⟨m,hs,hm⟩,_⟩:=h
  have ht:=hi.w.tm
  have hd:=Y4 (p:=p) (A:=m) (x:=⟨A.now,0,[],[],[],0,0,0⟩) (by show (0:Int)≤0;decide) (by show (0:Int)<12;decide) ht.1 ht.2 hs.t
  have ea:yI p (Dc p m A.now) ⟨A.now,0,[],[],[],0,0,0⟩=Gz (Dc p m A.now):=rfl
  have hd:zL p m ⟨A.now,0,[],[],[],0,0,0⟩=(({ ig p (Dc p m A.now) with done:=m.done ++ [⟨A.now,0,[],[],[],0,0,0⟩] }:AO),[],0):=hd
  have e2:ig p (Dc p m A.now)=Dc p m A.now:=Ky hp (A:=m) (t:=A.now) (t':=A.now) (Int.le_refl _)
  rw [e2] at hd
  have:=OJ (p:=p) (x:=⟨A.now,0,[],[],[],0,0,0⟩) (l:=A.done.map KI) (A:=Eu p) (B:=m) (by rw [hm,List.length_map]) (by rw [hd])
  refine ⟨m.done ++ [⟨A.now,0,[],[],[],0,0,0⟩],?_⟩
  rw [this,hd,List.length_map]
  congr 1
  conv=>rhs;rw [hs.e]
  rfl
theorem law_PermitLog (x0:GPermitPlan) (x1:List GEvent) (h0:x0.ok) (h1:gL GEvent.ok x1):xU (2 ^ 70) x0 x1=some true:=by
  have hN:1000000≤2 ^ 70:=by decide
  have hN2:(2:Nat) ^ 70=1180591620717411303424:=by decide
  have hlim:lim ≥ 10000000:=by decide
  unfold xU
  refine jJu hN OL fun hp hc hsl hpl hxl hl=>?_
  have ho:=okP hc
  have hm:=hp.m
  obtain ⟨st,hn,hr⟩:=Wu hp hc hN
  rw [hn,bS]
  simp only [Bj]
  rw [qV,dT rfl]
  simp only [Bool.not_true,Bool.or_self,nN]
  have key:∃ o,eF (pY (2 ^ 70) x1) (2 ^ 70) (0,(⟨x0,0,[]⟩:af),st,[],[])=some o∧∃ A,Vq x0 A∧OM x0 x1.length A o.1 o.2.1 o.2.2.1 o.2.2.2:=by
    refine H7 (n:=x1.length) (fun (i:Nat) (s:Int×af×List (Str×ah)×List (Str×ai)×List (Str×Str))=>s.1=(i:Int)∧∃ A,Vq x0 A∧OM x0 i A s.2.1 s.2.2.1 s.2.2.2.1 s.2.2.2.2) (fun (o:af×List (Str×ah)×List (Str×ai)×List (Str×Str))=>∃ A,Vq x0 A∧OM x0 x1.length A o.1 o.2.1 o.2.2.1 o.2.2.2) ⟨rfl,Eu x0,jJw ho,hr⟩ (fun i s hi hs=>?_) (fun s hs=>?_) (by omega)
    · obtain ⟨s1,g,st,mP,pe⟩:=s
      obtain ⟨e1,A,hL,hr⟩:=hs
      simp only [] at e1 hr
      subst e1
      obtain ⟨g',st',Ei,OO,hd,hr'⟩:=Y5 hp ho hN hr (by omega) x1[i]
      refine ⟨(((i+1:Nat):Int),g',st',Ei,OO),?_,rfl,(zL x0 A x1[i]).1,log_do ho hL hr.inv _,hr'⟩
      unfold pY
      simp only []
      rw [dw,dT (by omega),ni,jI hi,bS,hd,bS,rJ (by omega)]
    · obtain ⟨s1,g,st,mP,pe⟩:=s
      obtain ⟨e1,A,hL,hr⟩:=hs
      simp only [] at e1
      subst e1
      refine ⟨(g,st,mP,pe),?_,A,hL,hr⟩
      unfold pY
      simp only []
      rw [dw,dF (by omega),nN]
  obtain ⟨⟨g,st1,mP,pe⟩,hlo,A,hL,hA⟩:=key
  simp only [] at hA
  have hlen:=hA.len
  rw [hlo,bS]
  simp only []
  rw [Xx hA.rel (by omega),bS]
  have h2:eF (oq (2 ^ 70) A.done) (2 ^ 70) ([],0)=some (Sum.inl (A.done.map KI)):=by
    have:=Nw (N:=2 ^ 70) (f:=oq (2 ^ 70) A.done) A.done [] (fun _=>true) KI (fun a i=>(a,i)) (fun a=>Sum.inl a) (fun i hi acc hacc=>by
      have hx:=hL.x _ (List.getElem_mem hi)
      simp only [List.length_nil] at hacc
      unfold oq
      simp only []
      rw [dw,dT (by omega),ni,jI hi,bS,Xz hN hx,bS]
      simp only []
      rw [Y6 hN hx,bS]
      simp only []
      rw [qV,dT rfl]
      simp only [Bool.not_true,Bool.or_self,nN]
      rw [FQ (by simp only [List.length_singleton];omega),bS,rJ (by omega),ni]) (fun t=>by
      unfold oq
      simp only []
      rw [dw,dF (by omega),nN]) (by omega)
    rw [List.filter_eq_self.2 (fun _ _=>rfl),List.nil_append] at this
    exact this
  rw [h2,bS]
  simp only [Sum.elim_inl]
  rw [Y7 hA.rel,bS,FQ (by simp only [List.length_singleton,List.length_map];omega),bS]
  obtain ⟨d,hpl2⟩:=Y3 ho hL hA.inv
  obtain ⟨g2,st2,air2,pe2,hB,hrep⟩:=XA hp hc hN (l:=A.done.map KI ++ [⟨A.now,0,[],[],[],0,0,0⟩]) (by simp;omega)
  rw [hpl2] at hB hrep
  simp only [] at hB hrep
  rw [hrep,bS]
  simp only [Bj]
  have b:=hA.bd (by omega)
  have bB:=hB.bd (by omega)
  have hpp:=hA.inv.w.pp
  have hppB:=hB.inv.w.pp
  have hnl:(List.length (A.done.map KI ++ [(⟨A.now,0,[],[],[],0,0,0⟩:GEvent)]):Int)=((A.done.length+1:Nat):Int):=by simp
  have hon:(nC x0 A fun _=>true).length<1000000:=Nat.lt_of_le_of_lt Ud (by omega)
  have hov:(ovA x0 A).length<1000000:=Nat.lt_of_le_of_lt Ue b.pl
  have eo:nC x0 (wd A d) (fun _=>true)=nC x0 A (fun _=>true):=rfl
  have ev:ovA x0 (wd A d)=ovA x0 A:=rfl
  have en:(wd A d).now=A.now:=rfl
  rw [hnl,qV,dT rfl,qV,dT rfl]
  simp only [Bool.not_true,Bool.or_self,Bool.not_false,ni]
  rw [Y7 hB.rel,bS,bS,en,qV,dT rfl]
  simp only [Bool.not_true,Bool.or_self,Bool.not_false,ni]
  rw [Wv hp hN hB.rel,bS,Wv hp hN hA.rel,bS,eo,JA hon hN,bS]
  simp only [Bool.not_true,Bool.or_self,Bool.not_false,ni]
  rw [OQ hp hN hB.rel bB hppB,bS,OQ hp hN hA.rel b hpp,bS,ev,JA hov hN,bS]
  simp only [Bool.not_true,Bool.or_self,nN]
  have h5:eF (qc (2 ^ 70) x0 (g,st1,mP,pe) (g2,st2,air2,pe2)) (2 ^ 70) 0=some (bif (List.range x0.aH.length).all (fun _=>true) then Sum.inl () else Sum.inr false):=by
    refine XB (fun i hi=>?_) ?_ (by omega)
    · have hx:=FU hi
      have hh:lZ x0 x0.aH[i]!.Name=true:=BZ.2 ⟨_,hx,rfl⟩
      have hwn:∀ r ∈ Ew x0 A x0.aH[i]!,r.Names.length<1000000:=jJg hp b (hp.l _ hx)
      have e1:stA (wd A d) x0.aH[i]!.Name=stA A x0.aH[i]!.Name:=rfl
      have e2:Ew x0 (wd A d) x0.aH[i]! = Ew x0 A x0.aH[i]!:=rfl
      unfold qc
      simp only []
      rw [dw,dT (by omega),ni,IZ hi,bS,Uf hA.rel,bS,bS,Uf hB.rel,bS,bS,Y8 hp ho hN hA.rel b hpp,bS,bS,Y8 hp ho hN hB.rel bB hppB,bS,hh,ho.JB hx]
      simp only [ni]
      rw [e1,e2,show IntKind.i64.wrap (IntKind.i64.wrap (IntKind.i64.wrap ((0:Int)+0)+0)+0)=0 by decide]
      simp only [qV,decide_true,Bool.not_true,Bool.or_self,Bool.not_false,ni,bS,RX QD hwn hN]
      rw [rJ (by omega)];rfl
    · unfold qc
      simp only []
      rw [dw,dF (by omega),nN]
  rw [h5]
  simp only [List.all_eq_true,implies_true,bS]
  have:(List.range x0.aH.length).all (fun _=>true)=true:=by simp
  rw [this]
  simp only [ni,Sum.elim_inl]
  rw [OL];rfl
end Go.KB
