/- Raw cells, variables that hold maps, variables that are captured or that go to keys that are no slots. Functions as numbers, slices of which nil is known, regions in parts, objects that are handed back. Variables of which several fields are rows or maps that are owned. clear of the end of a row that is owned. Struct values of which several fields are rows that are owned: variables, arguments, results. maps.Clone: a copy of a map that is owned. No condition. -/
import Derived.Test.YtmkofmfndcoflaaKZe
import Derived.Lib.LazyBuf
namespace Go.KB
variable {P:Program} {o:Oper} {N:List (Nat×ay)} {α β:Type}
section
variable {κ:Type} {B:Base} {h0:H} {Γ:Ctx} {Λ:Own} {F:κ→Option cZ} {n:Nat} {a:Act} {w:World}
end
end Go.KB
namespace Go.KB
variable {P:Program} {o:Oper} {N:List (Nat×ay)} {α β:Type}
def FO:List (Nat×dw)→List Po→List Po→Prop
 | (_,q0) :: r,p :: ps,p' :: ps'=>(p'=p∨(p = .keep∧p' = .to q0))∧FO r ps ps'
 | [],[],[]=>True
 | _,_,_=>False
theorem FO.ok {E:Nat→Option cZ} {g:Nat→Value}:∀ {pre:List (Nat×dw)} {ps ps':List Po},FO pre ps ps'→zO pre ps E g→zO pre ps' E g:=by
 intro pre
 induction pre with
 | nil=>intro ps ps' h _;cases ps <;> cases ps' <;> first | trivial | exact h.elim
 | cons x r ih =>
  obtain ⟨k,q0⟩:=x
  intro ps ps' h hp
  cases ps with
  | nil=>exact h.elim
  | cons p ps=>cases ps' with
   | nil=>exact h.elim
   | cons p' ps' =>
    obtain ⟨h1,h2⟩:=h
    refine ⟨?_,ih h2 hp.2⟩
    rcases h1 with rfl | ⟨rfl,rfl⟩
    ·exact hp.1
    ·exact hp.1
theorem Iu.post {f:FuncId} {args:List ay} {pre:List (Nat×dw)} {ps ps':List Po} {own:Option dw} {res:ay} (h:Iu P f args pre ps own res) (hw:FO pre ps ps'):Iu P f args pre ps' own res:=by
 intro κ B L h0 w vs E hst hl hpre hargs
 exact (h κ B L h0 w vs E hst hl hpre hargs).mono fun e w' ⟨u,h',E',a,b,c,d,x,y⟩=>⟨u,h',E',a,b,c,hw.ok d,x,y⟩
section
variable {ρ:Option Nat} {κ:Type} {B:Base} {h0:H} {Γ:Ctx} {Λ:Own} {F:κ→Option cZ} {n:Nat} {ops:Array Oper} {a:Act} {w:World} {Q:Exit→Act→World→Prop}
end
section
variable {κ:Type} {B:Base} {h0:H} {Γ:Ctx} {Λ:Own} {F:κ→Option cZ} {n:Nat} {a:Act} {w:World} {vM:Nat→Value} {pre:List (Nat×dw)} {post:List Po}
end
end Go.KB
namespace Go.KB
variable {P:Program} {o:Oper} {N:List (Nat×ay)} {α β ρ:Type}
def EK:cZ where
 claims:=[]
 ok:=fun _ _=>True
 mono:=fun _ x=>x
 frame:=fun _ x=>x
def bxJ (T:TypeId) (R:Rep (α×ρ)) (x:α) (ts:List qf) (J:ρ→cZ→Prop):dw:=fun v e=>∃ p e1 e2,BL T R (x,p) ts v e1∧J p e2∧e=sJ e1 e2∧y8 e1.claims e2.claims
def jN:ρ→cZ→Prop:=fun _ e=>e=EK
def jC (g:ρ→Value) (q:dw) (J:ρ→cZ→Prop):ρ→cZ→Prop:=fun p e=>∃ e2 e3,J p e2∧q (g p) e3∧e=sJ e2 e3∧y8 e2.claims e3.claims
section
variable {κ:Type} {B:Base} {h:H} {L:Nat→Option cZ} {F:κ→Option cZ} {w:World}
def Iw (e2:cZ) (F:κ→Option cZ):Option κ→Option cZ
 | none=>some e2
 | some x=>F x
theorem St.Iy {s:Nat} {e1 e2:cZ} (hst:St B h (Sum.elim L F) w) (hL:L s=some (sJ e1 e2)) (hd:y8 e1.claims e2.claims):St B h (Sum.elim (set1 L s e1) (Iw e2 F)) w:=by
 obtain ⟨hcl,hok⟩:=hst.own (k:=.inl s) hL
 have key:∀ (k:Nat ⊕ Option κ) e,Sum.elim (set1 L s e1) (Iw e2 F) k=some e→(k = .inl s∧e=e1)∨(k = .inr none∧e=e2)∨∃ k',k' ≠ .inl s∧Sum.elim L F k'=some e∧k=(match k' with | .inl k=>.inl k | .inr x=>.inr (some x)):=by
  intro k e he
  cases k with
  | inl k =>
   by_cases hk:k=s
   ·subst hk;simp only [Sum.elim_inl,set1,if_true] at he;exact .inl ⟨rfl,(Option.some.inj he).symm⟩
   ·simp only [Sum.elim_inl,set1,if_neg hk] at he;exact .inr (.inr ⟨.inl k,fun x=>hk (Sum.inl.inj x),he,rfl⟩)
  | inr x=>cases x with
   | none=>exact .inr (.inl ⟨rfl,(Option.some.inj he).symm⟩)
   | some x=>exact .inr (.inr ⟨.inr x,(fun x=>by cases x),he,rfl⟩)
 refine ⟨hst.low,hst.base,fun x=>hst.ext x,?_,?_⟩
 ·intro k e he
  rcases key k e he with ⟨_,rfl⟩ | ⟨_,rfl⟩ | ⟨k',_,h2,_⟩
  ·exact ⟨fun c hc=>hcl c (List.mem_append_left _ hc),hok.1⟩
  ·exact ⟨fun c hc=>hcl c (List.mem_append_right _ hc),hok.2⟩
  ·exact hst.own h2
 ·intro k k' e e' he he' hne c hc c' hc'
  rcases key k e he with ⟨rfl,rfl⟩ | ⟨rfl,rfl⟩ | ⟨k1,h1,h2,rfl⟩
  ·rcases key k' e' he' with ⟨rfl,rfl⟩ | ⟨rfl,rfl⟩ | ⟨k2,h3,h4,rfl⟩
   ·exact absurd rfl hne
   ·exact hd c hc c' hc'
   ·exact hst.lY (k:=.inl s) hL h4 (fun x=>h3 x.symm) c (List.mem_append_left _ hc) c' hc'
  ·rcases key k' e' he' with ⟨rfl,rfl⟩ | ⟨rfl,rfl⟩ | ⟨k2,h3,h4,rfl⟩
   ·exact fun x=>hd c' hc' c hc x.symm
   ·exact absurd rfl hne
   ·exact hst.lY (k:=.inl s) hL h4 (fun x=>h3 x.symm) c (List.mem_append_right _ hc) c' hc'
  ·rcases key k' e' he' with ⟨rfl,rfl⟩ | ⟨rfl,rfl⟩ | ⟨k2,h3,h4,rfl⟩
   ·exact hst.lY h2 (k':=.inl s) hL h1 c hc c' (List.mem_append_left _ hc')
   ·exact hst.lY h2 (k':=.inl s) hL h1 c hc c' (List.mem_append_right _ hc')
   ·exact hst.lY h2 h4 (fun x=>hne (by rw [x])) c hc c' hc'
theorem St.joinF {s:Nat} {e1 e2:cZ} (hst:St B h (Sum.elim L (Iw e2 F)) w) (hL:L s=some e1):St B h (Sum.elim (set1 L s (sJ e1 e2)) F) w∧y8 e1.claims e2.claims:=by
  have hN:Sum.elim L (Iw e2 F) (.inr none)=some e2:=rfl
  have hd:y8 e1.claims e2.claims:=fun c hc c' hc'=>hst.lY (k:=.inl s) hL hN (fun x=>by cases x) c hc c' hc'
  have key:∀ (k:Nat ⊕ κ) e,Sum.elim (set1 L s (sJ e1 e2)) F k=some e→(k = .inl s∧e=sJ e1 e2)∨(k ≠ .inl s∧∃ k',k' ≠ .inl s∧k' ≠ .inr none∧Sum.elim L (Iw e2 F) k'=some e∧k'=(match k with | .inl k=>.inl k | .inr x=>.inr (some x))):=by
    intro k e he
    cases k with
    | inl k =>
      by_cases hk:k=s
      · subst hk;simp only [Sum.elim_inl,set1,if_true] at he;exact .inl ⟨rfl,(Option.some.inj he).symm⟩
      · simp only [Sum.elim_inl,set1,if_neg hk] at he;exact .inr ⟨fun x=>hk (Sum.inl.inj x),.inl k,fun x=>hk (Sum.inl.inj x),(fun x=>by cases x),he,rfl⟩
    | inr x=>exact .inr ⟨(fun x=>by cases x),.inr (some x),(fun x=>by cases x),(fun x=>by cases x),he,rfl⟩
  refine ⟨⟨hst.low,hst.base,fun x=>hst.ext x,?_,?_⟩,hd⟩
  · intro k e he
    rcases key k e he with ⟨rfl,rfl⟩ | ⟨_,k',_,_,h2,_⟩
    · refine ⟨fun c hc => ?_, (hst.own (k := .inl s) hL).2, (hst.own hN).2⟩
      rcases List.mem_append.1 hc with hc | hc
      · exact (hst.own (k:=.inl s) hL).1 c hc
      · exact (hst.own hN).1 c hc
    · exact hst.own h2
  · intro k k' e e' he he' hne c hc c' hc'
    rcases key k e he with ⟨rfl,rfl⟩ | ⟨g1,k1,h1,h1',h2,e1'⟩
    · rcases key k' e' he' with ⟨rfl,rfl⟩ | ⟨g3,k2,h3,h3',h4,_⟩
      · exact absurd rfl hne
      · rcases List.mem_append.1 hc with hc | hc
        · exact hst.lY (k:=.inl s) hL h4 (fun x=>h3 x.symm) c hc c' hc'
        · exact hst.lY hN h4 (fun x=>h3' x.symm) c hc c' hc'
    · rcases key k' e' he' with ⟨rfl,rfl⟩ | ⟨g3,k2,h3,h3',h4,e2'⟩
      · rcases List.mem_append.1 hc' with hc' | hc'
        · exact hst.lY h2 (k':=.inl s) hL h1 c hc c' hc'
        · exact hst.lY h2 hN h1' c hc c' hc'
      · refine hst.lY h2 h4 (fun x => hne ?_) c hc c' hc'
        rw [e1',e2'] at x
        cases k <;> cases k' <;> simp_all
end
theorem Eo {T T':TypeId} {R:Rep (α×ρ)} {rw':Rep Value} {ts:List qf} {s d off:Nat} {x0:Operand} {x:α} {J:ρ→cZ→Prop} {q:dw} {g:ρ→Value} {set:ρ→Value→ρ}
  (l:Lens R rw' off (fun y=>g y.2) (fun y z=>(y.1,set y.2 z))) (t:fQ P T rw') (hraw:rw'.sz=1∧rw'.agg=false) (hap:apartB off 1 ts=true) (hsd:Nat.beq s d=false) (hd:o.dst=none) (ho:o.op = .store T x0 (.tmp d)) (hx:aO N x0 (BM s off))
  (hq:∀ h v e,q v e→rw'.rel h [v] v) (hJ:∀ p v e,J p e→J (set p v) e) (hg:∀ p v,g (set p v)=v):bn P o N [(s,bxJ T' R x ts J),(d,q)] ay.kV [(s,some (bxJ T' R x ts (jC g q J))),(d,none)]:=by
 have hne:s≠d:=fun x=>by rw [gY.2 x] at hsd;cases hsd
 intro κ B F L h a w hst hn hk _ next Q hnext _
 obtain ⟨b,hdv,hxv⟩:=hx h a hn
 obtain ⟨e,hL,p,e1,e2,hbx,hJ2,rfl,hdj0⟩:=hk.1
 obtain ⟨b',us,hv',hta,Ht,rfl⟩:=hbx
 obtain ⟨e3,hL2,hq2⟩:=hk.2.1
 have hL2:L d=some e3:=hL2
 have hq2:q (a.gt d) e3:=hq2
 have hd':a.gt s = .pointer (some ⟨b,0,none⟩):=hdv
 rw [hd'] at hv';cases hv'
 have Gw:=hst.Iy hL hdj0
 obtain ⟨p0,c,q',hp,hrun,hcl,hmem,hrel,hget,hst'⟩:=EL l t Gw kT Ht (List.Sublist.refl us) (fun u hu=>by
  obtain ⟨t,ht,e⟩:=hta.offs u hu;rw [e,hraw.1];exact yO hap t ht) (c':=[a.gt d]) (z:=a.gt d) (hq h _ _ hq2)
 rw [sK] at hst'
 obtain ⟨hst1,hdj1⟩:=hst'.joinF kT
 rw [sK] at hst1
 unfold Oper.jy
 have:(execOp a.eval o).run P w = .ok .skip (w.setRow b (p0 ++ [a.gt d] ++ q').toArray):=by
  have hrun':(Instr.storeAt T (.pointer (some ⟨b,off,none⟩)) (a.eval (.tmp d))).run P w = .ok () (w.setRow b (p0 ++ [a.gt d] ++ q').toArray):=by
   have e:pack rw'.agg [a.gt d]=a.gt d:=by rw [hraw.2];rfl
   rw [e] at hrun;exact hrun
  simp only [execOp,ho,hxv,Sem.run_bind,hrun',Result.andThen_ok,Sem.run_pure]
 rw [this]
 have hLd:set1 L s (sJ (jA b T' R (x,set p (a.gt d)) us) e2) d=some e3:=by simp [set1,Ne.symm hne,hL2]
 have hd13:y8 (sJ (jA b T' R (x,set p (a.gt d)) us) e2).claims e3.claims:=hst1.lY (k:=Sum.inl s) (k':=Sum.inl d) kT hLd (fun x=>hne (Sum.inl.inj x))
 have hj:=hst1.ve (e:=sJ (jA b T' R (x,set p (a.gt d)) us) (sJ e2 e3)) kT hLd (fun c hc=>by
  rcases List.mem_append.1 hc with hc | hc
  ·exact .inl (List.mem_append_left _ hc)
  ·rcases List.mem_append.1 hc with hc | hc
   ·exact .inl (List.mem_append_right _ hc)
   ·exact .inr hc) ⟨(hst1.own (k:=Sum.inl s) kT).2.1,(hst1.own (k:=Sum.inl s) kT).2.2,(hst1.own (k:=Sum.inl d) hLd).2⟩
 have hL':ve (set1 L s (sJ (jA b T' R (x,set p (a.gt d)) us) e2)) s d (sJ (jA b T' R (x,set p (a.gt d)) us) (sJ e2 e3))=ve L s d (sJ (jA b T' R (x,set p (a.gt d)) us) (sJ e2 e3)):=by
  funext k;unfold ve set1
  by_cases h1:k=d
  ·rw [if_pos h1,if_pos h1]
  ·rw [if_neg h1,if_neg h1]
   by_cases h2:k=s
   ·rw [if_pos h2,if_pos h2]
   ·rw [if_neg h2,if_neg h2,if_neg h2]
 rw [hL'] at hj
 refine hnext undef h _ _ (gW.refl h) trivial hj ?_
 rw [hd]
 refine Gx hne ⟨set p (a.gt d),_,sJ e2 e3,⟨b,us,hd',hta,Ht,rfl⟩,⟨e2,e3,hJ _ _ _ hJ2,by rw [hg];exact hq2,rfl,?_⟩,rfl,?_⟩
 ·exact fun c hc c' hc'=>hd13 c (List.mem_append_right _ hc) c' hc'
 ·intro c hc c' hc'
  rcases List.mem_append.1 hc' with hc' | hc'
  ·exact hdj1 c hc c' hc'
  ·exact hd13 c (List.mem_append_left _ hc) c' hc'
section
variable {κ:Type} {B:Base} {h0:H} {Γ:Ctx} {Λ:Own} {F:κ→Option cZ} {n:Nat} {a:Act} {w:World}
theorem At.toBx {T:TypeId} {rep:Rep α} {R:Rep (α×ρ)} {x:α} (s:Nat) (hin:∀ h cs,rep.rel h cs x→∃ p,R.rel h cs (x,p)) (hAt:At B h0 Γ Λ F n a w) (hs:Λ s=some (dH T rep x)) :
  At B h0 Γ (fun k=>bif Nat.beq s k then some (bxJ T R x [] jN) else Λ k) F n a w:=by
 obtain ⟨h,L,hle,hst,ql,kQ,hsz,hdf⟩:=hAt
 obtain ⟨e,hL,b,hv,rfl⟩:=ql s _ hs
 obtain ⟨cs,hb,hr⟩:=wP hst hL
 obtain ⟨p,hp⟩:=hin h cs hr
 have hst':=hst.swap (e':=sJ (jA b T R (x,p) []) EK) hL (fun c hc=>⟨c,by simpa [sJ,jA,qg,Iz,EK] using hc,rfl,Nat.le_refl _⟩) ⟨⟨⟨cs,hb,hp,fun u hu=>by cases hu⟩,fun u hu=>by cases hu⟩,trivial⟩
 refine ⟨h,_,hle,hst',?_,kQ,hsz,hdf⟩
 intro k q hq
 cases hk:Nat.beq s k with
 | true =>
  simp only [hk,cond_true] at hq
  cases hq
  rw [gY] at hk;subst hk
  exact ⟨_,kT,p,_,_,⟨b,[],hv,trivial,⟨List.Pairwise.nil,fun u hu=>by cases hu⟩,rfl⟩,rfl,rfl,fun c hc c' hc'=>by cases hc'⟩
 | false =>
  simp only [hk,cond_false] at hq
  obtain ⟨e,he,hqe⟩:=ql k q hq
  have:k≠s:=fun x=>by rw [gY.2 x.symm] at hk;cases hk
  exact ⟨e,by simp [set1,this,he],hqe⟩
theorem At.Lj {Λ':Own} (h:∀ k,Λ k=Λ' k) (hAt:At B h0 Γ Λ F n a w):At B h0 Γ Λ' F n a w:=by rw [← funext h];exact hAt
theorem At.FP {s g:Nat} {Q:dw} {P1 P2:Value→cZ→Prop} (hsg:Nat.beq s g=false) (hAt:At B h0 Γ Λ F n a w) (hs:Λ s=some Q) (hQ:∀ v e,Q v e→∃ e1 e2,P1 v e1∧P2 v e2∧e=sJ e1 e2∧y8 e1.claims e2.claims) (h2:∀ v v' e,P2 v e→P2 v' e) :
  At B h0 Γ (fun k=>bif Nat.beq s k then some P1 else bif Nat.beq g k then some P2 else Λ k) F n a w:=by
 obtain ⟨h,L,hle,hst,ql,kQ,hsz,hdf⟩:=hAt
 obtain ⟨e,hL,hq⟩:=ql s _ hs
 obtain ⟨e1,e2,k1,k2,rfl,hd⟩:=hQ _ _ hq
 have hne:s≠g:=fun x=>by rw [gY.2 x] at hsg;cases hsg
 obtain ⟨_,o1,o2⟩:=hst.own (k:=Sum.inl s) hL
 have hst':=hst.split2 (d:=g) (e1:=e1) (e2:=e2) hL hne (fun c hc=>List.mem_append_left _ hc) (fun c hc=>List.mem_append_right _ hc) hd o1 o2
 refine ⟨h,_,hle,hst',?_,kQ,hsz,hdf⟩
 intro k q hq
 cases hk:Nat.beq s k with
 | true =>
  simp only [hk,cond_true] at hq
  cases hq
  rw [gY] at hk;subst hk
  exact ⟨e1,by simp [set1,hne],k1⟩
 | false =>
  simp only [hk,cond_false] at hq
  cases hk2:Nat.beq g k with
  | true =>
   simp only [hk2,cond_true] at hq
   cases hq
   rw [gY] at hk2;subst hk2
   exact ⟨e2,by simp [set1],h2 _ _ _ k2⟩
  | false =>
   simp only [hk2,cond_false] at hq
   obtain ⟨e,he,hqe⟩:=ql k q hq
   have h3:k≠s:=fun x=>by rw [gY.2 x.symm] at hk;cases hk
   have h4:k≠g:=fun x=>by rw [gY.2 x.symm] at hk2;cases hk2
   exact ⟨e,by simp [set1,h3,h4,he],hqe⟩
def blob (J:ρ→cZ→Prop) (p:ρ):dw:=fun _ e=>J p e
theorem At.Jz {T:TypeId} {R:Rep (α×ρ)} {x:α} {ts:List qf} {J:ρ→cZ→Prop} (s g:Nat) (hsg:Nat.beq s g=false) (hAt:At B h0 Γ Λ F n a w) (hs:Λ s=some (bxJ T R x ts J)) :
  ∃ p,At B h0 Γ (fun k=>bif Nat.beq s k then some (BL T R (x,p) ts) else bif Nat.beq g k then some (blob J p) else Λ k) F n a w:=by
 have hAt0:=hAt
 obtain ⟨h,L,hle,hst,ql,kQ,hsz,hdf⟩:=hAt
 obtain ⟨e,hL,p,e1,e2,h1,h2,he,hd⟩:=ql s _ hs
 have hX:At B h0 Γ (fun k=>bif Nat.beq s k then some (fun v e'=>v=a.gt s∧e'=e) else Λ k) F n a w:=by
  refine ⟨h,L,hle,hst,?_,kQ,hsz,hdf⟩
  intro k q hq
  cases hk:Nat.beq s k with
  | true=>simp only [hk,cond_true] at hq;cases hq;rw [gY] at hk;subst hk;exact ⟨e,hL,rfl,rfl⟩
  | false=>simp only [hk,cond_false] at hq;exact ql k q hq
 refine ⟨p,At.Lj (fun k=>?_) (hX.FP (Q:=fun v e'=>v=a.gt s∧e'=e) (P1:=BL T R (x,p) ts) (P2:=blob J p) hsg (by simp [Nat.beq_refl]) (fun v e' ⟨hv,he'⟩=>⟨e1,e2,by rw [hv];exact h1,h2,he'.trans he,hd⟩) (fun _ _ _ h=>h))⟩
 cases hk:Nat.beq s k with
 | true=>rfl
 | false=>simp only [cond_false]
theorem At.KN {J:ρ→cZ→Prop} {gf:ρ→Value} {q:dw} {p:ρ} (g g2:Nat) (hsg:Nat.beq g g2=false) (hAt:At B h0 Γ Λ F n a w) (hs:Λ g=some (blob (jC gf q J) p)) :
  At B h0 Γ (fun k=>bif Nat.beq g k then some (blob J p) else bif Nat.beq g2 k then some (atV q (gf p)) else Λ k) F n a w :=
 hAt.FP hsg hs (fun _ _ ⟨e2,e3,h1,h2,he,hd⟩=>⟨e2,e3,h1,h2,he,hd⟩) (fun _ _ _ h=>h)
theorem At.H7 {T E1:TypeId} {rep:Rep α} {R:Rep (α×Value)} {q1:Rep β} {x y:α} {v1:Value} {ys1:List β} (s g1:Nat) (hne:Nat.beq s g1=false) (hAt:At B h0 Γ Λ F n a w)
  (hs:Λ s=some (BL T R (x,v1) [])) (h1:Λ g1=some (Df v1 E1 q1 ys1))
  (hout:∀ h cs,R.rel h cs (x,v1)→(Rep.slice q1).rel h [v1] ys1→rep.rel h cs y) :
  At B h0 Γ (fun k=>bif Nat.beq s k then some (dH T rep y) else bif Nat.beq g1 k then none else Λ k) F n a w:=by
 have n1:s≠g1:=fun x=>by rw [gY.2 x] at hne;cases hne
 obtain ⟨h,L,hle,hst,ql,kQ,hsz,hdf⟩:=hAt
 obtain ⟨e,hL,b,us,hv,hta,Ht,rfl⟩:=ql s _ hs
 have hus:us=[]:=by cases us with
  | nil=>rfl
  | cons _ _=>exact hta.elim
 subst hus
 obtain ⟨eg1,hLg1,hqg1⟩:=ql g1 _ h1
 obtain ⟨h',hl,hst',hsl⟩:=hst.JF (Sum.inl g1) (L':=Sum.elim (fun k=>if k=g1 then none else L k) F) hLg1 hqg1 (by
  intro k' e' hne he
  cases k' with
  | inr k=>exact he
  | inl k =>
   have:k≠g1:=fun x=>hne (by rw [x])
   simpa [this] using he) (by simp)
 have hLs:(fun k=>if k=g1 then none else L k) s=some (jA b T R (x,v1) []):=by simp [n1,hL]
 obtain ⟨⟨cs,hb,hr,hu1⟩,hu2⟩:=BN hst' hLs
 have hst2:=hst'.swap (e':=qg b T rep y) hLs (fun c hc=>⟨c,by simpa [jA,qg,Iz] using hc,rfl,Nat.le_refl _⟩) ⟨cs,hb,hout _ _ hr hsl⟩
 refine ⟨h',_,hle.trans hl,hst2,?_,fun k=>(Γ k).mono hl (kQ k),hsz,hdf⟩
 intro k Q hq
 cases hk:Nat.beq s k with
 | true =>
  simp only [hk,cond_true] at hq
  cases hq
  rw [gY] at hk;subst hk
  exact ⟨_,kT,b,hv,rfl⟩
 | false =>
  simp only [hk,cond_false] at hq
  cases hk2:Nat.beq g1 k with
  | true=>simp only [hk2,cond_true] at hq;cases hq
  | false =>
   simp only [hk2,cond_false] at hq
   obtain ⟨e2,he2,hqe⟩:=ql k Q hq
   have m1:k≠s:=fun x=>by rw [gY.2 x.symm] at hk;cases hk
   have m2:k≠g1:=fun x=>by rw [gY.2 x.symm] at hk2;cases hk2
   exact ⟨e2,by simp [set1,m1,m2,he2],hqe⟩
end
theorem En {T T':TypeId} {R:Rep (α×ρ)} {x:α} {ts:List qf} {J:ρ→cZ→Prop} {s i off:Nat} (hf:bW P T i off) (ho:o.op = .fieldAddr T (.tmp s) i):bn P o N [(s,bxJ T' R x ts J)] (BM s off) []:=by
 intro κ B F L h a w hst hn hk hdn next Q hnext hns
 obtain ⟨e,hL,p,e1,e2,⟨b,us,hv,hta,Ht,rfl⟩,hJ,rfl,hd⟩:=hk.1
 have hv:a.eval (.tmp s) = .pointer (some ⟨b,0,none⟩):=hv
 unfold Oper.jy
 have:(execOp a.eval o).run P w = .ok (.value (.pointer (some ⟨b,off,none⟩))) w:=by
  simp [execOp,ho,hv,hf b 0 w]
 rw [this]
 exact hnext _ h w L (gW.refl h) ⟨b,hv,rfl⟩ hst gX
theorem Hz {E:TypeId} {r:Rep α} {xs:List α} {h:H} {v:Value} {e:cZ} (k:aU E r xs v e):Rep.raw.rel h [v] v:=by
 rcases k with ⟨⟨base,rfl⟩,_⟩ | ⟨b,cap,rfl,_⟩ <;> exact ⟨rfl,rfl⟩
end Go.KB
namespace Go.KB
variable {P:Program} {o:Oper} {N:List (Nat×ay)} {α β:Type}
theorem opdF {P:Program} {N:List (Nat×ay)} {ι:Type} {A:ι→List ay} {R:ι→ay} {f:FuncId} {fn:Func} (hc:∀ i,FnOk P f (A i) (R i)) (hf:P.funcs[f]? = some fn) (hb:kE fn=true):aO N (.func f) (fF P A R) :=
 fun h a _=>⟨f,fn,#[],rfl,hf,hb,fun i κ B L h' w' vs hl hst hvl hvs=>by simpa using hc i κ B L h' w' vs hst hvl hvs⟩
theorem opdF2 {P:Program} {N:List (Nat×ay)} {α β γ:Type} {r:Rep α} {s:Rep γ} {q:Rep β} {φ:α→γ→Option β} {f:FuncId} {fn:Func} (hc:∀ x y z,φ x y=some z→FnOk P f [fV r x,fV s y] (fV q z)) (hf:P.funcs[f]? = some fn) (hb:kE fn=true):aO N (.func f) (fF2 P r s q φ):=opdF (fun i=>hc _ _ _ i.2) hf hb
end Go.KB
namespace Go.KB
variable {P:Program} {o:Oper} {N:List (Nat×ay)} {α β ρ:Type}
section
variable {κ:Type} {B:Base} {h0:H} {Γ:Ctx} {Λ:Own} {F:κ→Option cZ} {n:Nat} {a:Act} {w:World}
theorem own_ne {s k:Nat} (h:Nat.beq s k=false):k≠s:=fun x=>by rw [gY.2 x.symm] at h;cases h
def jF (T:TypeId) (R:Rep α) (c:Value→α) (ts:List qf) (E:TypeId) (q:Rep β) (ys:List β):dw:=fun v e=>∃ sv e1 e2,BL T R (c sv) ts v e1∧aU E q ys sv e2∧y8 e1.claims e2.claims∧e=sJ e1 e2
theorem At.Iy {T E:TypeId} {R:Rep α} {c:Value→α} {ts:List qf} {q:Rep β} {ys:List β} (s g:Nat) (hsg:Nat.beq s g=false) (hAt:At B h0 Γ Λ F n a w) (hs:Λ s=some (jF T R c ts E q ys)) :
  ∃ sv,At B h0 Γ (fun k=>bif Nat.beq s k then some (BL T R (c sv) ts) else bif Nat.beq g k then some (Df sv E q ys) else Λ k) F n a w:=by
 obtain ⟨h,L,hle,hst,ql,kQ,hsz,hdf⟩:=hAt
 obtain ⟨e,hL,sv,e1,e2,h1,h2,hd,rfl⟩:=ql s _ hs
 have hne:s≠g:=fun x=>by rw [gY.2 x] at hsg;cases hsg
 obtain ⟨_,k1,k2⟩:=hst.own (k:=Sum.inl s) hL
 have hst':=hst.split2 (d:=g) (e1:=e1) (e2:=e2) hL hne (fun c hc=>List.mem_append_left _ hc) (fun c hc=>List.mem_append_right _ hc) hd k1 k2
 refine ⟨sv,h,_,hle,hst',?_,kQ,hsz,hdf⟩
 intro k Q hq
 cases hk:Nat.beq s k with
 | true =>
  simp only [hk,cond_true] at hq
  cases hq
  rw [gY] at hk;subst hk
  exact ⟨e1,by simp [set1,hne],h1⟩
 | false =>
  simp only [hk,cond_false] at hq
  cases hk2:Nat.beq g k with
  | true =>
   simp only [hk2,cond_true] at hq
   cases hq
   rw [gY] at hk2;subst hk2
   exact ⟨e2,by simp [set1],h2⟩
  | false =>
   simp only [hk2,cond_false] at hq
   obtain ⟨e,he,hqe⟩:=ql k Q hq
   exact ⟨e,by simp [set1,own_ne hk,own_ne hk2,he],hqe⟩
end
end Go.KB
namespace Go.KB
variable {P:Program} {α β:Type}
section
variable {ρ:Option Nat} {κ:Type} {B:Base} {h0:H} {Γ:Ctx} {Λ:Own} {F:κ→Option cZ} {n:Nat} {a:Act} {w:World} {vM:Nat→Value} {pre:List (Nat×dw)} {post:List Po}
end
end Go.KB
