/- Functions that use what lies at known places: entries under keys that are slots, or no slots. Ranges over maps that are owned: whatever the order. Ranges over functions: the iterator, yield, the rounds. The rule on ranges over functions. No condition. -/
import Derived.Test.YtdmioehoinnamaaGreatDoorKZd
import Derived.Maps.RangeRun
import Derived.RangeFuncCalls
import Derived.RangeFuncBound
namespace Go.KB
variable {P:Program} {o:Oper} {N:List (Nat×aQ)} {α β γ:Type}
def WQ (vs:Nat→Value) (k:Nat):Value:=bif Nat.ble 5000 k then undef else vs k
def QW:List (Nat×eP)→(Nat→Option gq)→(Nat→Value)→Prop
 | [],_,_=>True
 | (k,q) :: r,E,g=>(∃ e,E k=some e∧q (g k) e)∧QW r E g
inductive Po where
 | keep
 | to (q:eP)
 | gone
def I4:List (Nat×eP)→List Po→(Nat→Option gq)→(Nat→Value)→Prop
 | (k,q0) :: r,p :: ps,E,g=>(match p with | .to q=>∃ e,E k=some e∧q (g k) e | .keep=>∃ e,E k=some e∧q0 (g k) e | .gone=>True)∧I4 r ps E g
 | _,_,_,_=>True
def Ya (own:Option eP) (E:Nat→Option gq) (u:Value):Prop:=match own with | some q=>∃ e,E 9999=some e∧q u e | none=>True
def mW (P:Program) (f:FuncId) (args:List aQ) (pre:List (Nat×eP)) (post:List Po) (own:Option eP) (res:aQ):Prop :=
 ∀ (κ:Type) (B:Base) (L:κ→Option gq) (h:H) (w:World) (vs:List Value) (E:Nat→Option gq),St B h (Sum.elim E L) w→args.length=vs.length→QW pre E (WQ fun k=>vs.getD k undef) →
  (∀ (j:Nat) (g:aQ) (u:Value),args[j]? = some g→vs[j]? = some u→g.p h undef u) →
  Calls P f vs.toArray w (fun e w'=>∃ u h' E',e = .returned u∧nI h h'∧St B h' (Sum.elim E' L) w'∧I4 pre post E' (WQ fun k=>vs.getD k undef)∧Ya own E' u∧res.p h' undef u)
def Jm (P:Program) (fn:Func) {κ:Type} (B:Base) (h0:H) (F:κ→Option gq) (vM:Nat→Value) (pre:List (Nat×eP)) (post:List Po) (own:Option eP) (res:aQ):Exit→Act→World→Prop :=
 fun e a w=>B.df=[]→KG P fn (fun e w'=>∃ u h' E',e = .returned u∧nI h0 h'∧St B h' (Sum.elim E' F) w'∧I4 pre post E' (WQ vM)∧Ya own E' u∧res.p h' undef u) e a w
theorem QW.get {E:Nat→Option gq} {g:Nat→Value}:∀ {pre:List (Nat×eP)},QW pre E g→∀ {k q},NJ pre k=some q→∃ e,E k=some e∧q (g k) e:=by
 intro pre
 induction pre with
 | nil=>intro _ k q h;cases h
 | cons x r ih =>
  obtain ⟨k0,q0⟩:=x
  intro h k q hq
  simp only [NJ,Za] at hq
  cases hk:Nat.beq k0 k with
  | true=>rw [hk] at hq;cases hq;rw [iQ] at hk;subst hk;exact h.1
  | false=>rw [hk] at hq;exact ih h.2 hq
def pmG (pm:List Nat) (vM:Nat→Value):List (Nat×aQ):=pm.map fun i=>(i,jk (vM i))
theorem lkF_pm {Γ:List (Nat×aQ)} {vM:Nat→Value}:∀ {pm:List Nat} {s:Nat},Qi (pmG pm vM ++ Γ) s=jk (vM s)∨Qi (pmG pm vM ++ Γ) s=Qi Γ s:=by
 intro pm
 induction pm with
 | nil=>intro s;exact .inr rfl
 | cons i r ih =>
  intro s
  show (bif Nat.beq i s then jk (vM i) else Qi (pmG r vM ++ Γ) s)=_∨(bif Nat.beq i s then jk (vM i) else Qi (pmG r vM ++ Γ) s)=_
  cases hk:Nat.beq i s with
  | true=>rw [iQ] at hk;subst hk;exact .inl rfl
  | false=>exact ih
theorem MO {vs:List Value} {m:Nat} (k:Nat):Act.gt { tmps:=vs.toArray ++ Array.replicate m undef,defers:=[] } k=vs.getD k undef:=by
  simp only [Act.gt,Array.getD_eq_getD_getElem?,List.getD_eq_getElem?_getD]
  by_cases hk:k<vs.length
  · rw [Array.getElem?_append_left (by simpa using hk)];simp
  · rw [Array.getElem?_append_right (by simp; omega)]
    simp only [Array.getElem?_replicate,List.getElem?_eq_none (Nat.le_of_not_lt hk)]
    split <;> rfl
theorem gy {n:Nat} {f:FuncId} {fn:Func} {c:Code} {args:List aQ} {pre:List (Nat×eP)} {post:List Po} {own:Option eP} {res:aQ} (pm:List Nat) (hf:P.funcs[f]? = some fn) (hb:fn.body=some c) (hn:fn.ntmps=n)
  (vZ:(Nat.ble args.length n&&Nat.ble n 5000&&ul args)=true)
  (hwp:∀ (κ:Type) (B:Base) (h0:H) (F:κ→Option gq) (a:Act) (w:World) (vM:Nat→Value),At B h0 (Sm (pmG pm vM ++ Ia 0 args)) (NJ pre) F n a w→c.rJ none P (Jm P fn B h0 F vM pre post own res) a w):mW P f args pre post own res:=by
 intro κ B L h w vs E hst hl hpre hargs
 simp only [Bool.and_eq_true,Nat.ble_eq] at vZ
 obtain ⟨⟨hlen,hn5⟩,hdp⟩:=vZ
 have BL:=og hdp
 refine BK rfl hf hb (hwp _ B.e h L _ w (fun k=>vs.getD k undef) ⟨h,E,nI.refl h,hst.toE,?_,?_,?_,rfl⟩) (fun _ _ ⟨v,h',x,he,hl,hs,hp⟩=>⟨v,h',x,he,hl,hs.ofE,hp⟩)
 ·intro s q hs
  obtain ⟨e,he,hq⟩:=hpre.get hs
  refine ⟨e,he,?_⟩
  rw [MO]
  unfold WQ at hq
  cases h5:Nat.ble 5000 s with
  | false=>rw [h5] at hq;exact hq
  | true =>
   rw [h5] at hq
   rw [Nat.ble_eq] at h5
   rw [List.getD_eq_getElem?_getD,List.getElem?_eq_none (by omega)]
   exact hq
 ·intro s
  rcases lkF_pm (pm:=pm) (Γ:=Ia 0 args) (vM:=fun k=>vs.getD k undef) (s:=s) with h1 | h1
  ·show (Qi (pmG pm _ ++ Ia 0 args) s).at _ _ _
   rw [h1];exact MO s
  ·show (Qi (pmG pm _ ++ Ia 0 args) s).at _ _ _
   rw [h1]
   rcases Ho args 0 s with h1 | ⟨j,g,h1,h2,h3⟩
   ·rw [h1];exact trivial
   ·rw [h3]
    have hj:=(List.getElem?_eq_some_iff.1 h1).1
    have hv:vs[j]? = some vs[j]:=List.getElem?_eq_getElem (by omega)
    have:=hargs j g _ h1 hv
    unfold aQ.at aQ.dv
    rw [BL g (List.mem_of_getElem? h1),h2,Nat.zero_add,MO,List.getD_eq_getElem?_getD,hv]
    exact this
 ·simp;omega
section
variable {κ:Type} {B:Base} {h h0:H} {L:Nat→Option gq} {Γ:Ctx} {Λ:Own} {F:κ→Option gq} {n:Nat} {a:Act} {w:World} {vM:Nat→Value} {pre:List (Nat×eP)} {post:List Po} {res:aQ}
def Gh (q:eP):Prop:=∀ v v' e,q v e→q v' e
theorem Gh.at {q:eP} {sv:Value}:Gh (eX q sv):=fun _ _ _ h=>h
def PostA (Γ:Ctx) (Λ:Own) (vM:Nat→Value):List (Nat×eP)→List Po→Prop
 | (k,q0) :: r,p :: ps=>(match p with | .to q=>Λ k=some q∧((Nat.ble 5000 k=true∧Gh q)∨(Nat.ble 5000 k=false∧Γ k=jk (vM k))) | .keep=>Λ k=some q0∧((Nat.ble 5000 k=true∧Gh q0)∨(Nat.ble 5000 k=false∧Γ k=jk (vM k))) | .gone=>True)∧PostA Γ Λ vM r ps
 | _,_=>True
theorem zF {x:Option eP} {b:Bool} {q:eP} {sv:Value} {X:Prop} (e:(x,b)=(some (eX q sv),true)):x=some (eX q sv)∧((b=true∧Gh (eX q sv))∨X):=⟨congrArg Prod.fst e,.inl ⟨congrArg Prod.snd e,Gh.at⟩⟩
theorem PostA.ok {E:Nat→Option gq} (vN:LP Λ L a) (oO:Sat Γ h a):∀ {pre:List (Nat×eP)} {post:List Po},PostA Γ Λ vM pre post→(∀ k q,(k,q) ∈ pre→E k=L k)→I4 pre post E (WQ vM):=by
 intro pre
 induction pre with
 | nil=>intro post _ _;cases post <;> trivial
 | cons x r ih =>
  obtain ⟨k,q0⟩:=x
  intro post hp hE
  cases post with
  | nil=>trivial
  | cons p ps =>
   refine ⟨?_,ih hp.2 (fun k q hk=>hE k q (List.mem_cons_of_mem _ hk))⟩
   have key:∀ q,Λ k=some q∧((Nat.ble 5000 k=true∧Gh q)∨(Nat.ble 5000 k=false∧Γ k=jk (vM k)))→∃ e,E k=some e∧q (WQ vM k) e:=by
    rintro q ⟨h1,h2⟩
    obtain ⟨e,hL,hq⟩:=vN k q h1
    refine ⟨e,by rw [hE k q0 (by simp)];exact hL,?_⟩
    unfold WQ
    rcases h2 with ⟨h5,hg⟩ | ⟨h5,hf⟩
    ·exact hg _ _ _ hq
    ·rw [h5,cond_false]
     have:=oO k
     rw [hf] at this
     have hv:a.gt k=vM k:=this
     rw [← hv];exact hq
   cases p with
   | gone=>trivial
   | to q=>exact key q hp.1
   | keep=>exact key q0 hp.1
def QX (P:Program) (Γ:Ctx) (Λ:Own) (fn:Func) (res:aQ):Prop :=
 ∀ (κ:Type) (B:Base) (F:κ→Option gq) (h:H) (a:Act) (w:World),∀ L,St B h (Sum.elim L F) w→LP Λ L a→Sat Γ h a→∃ v,(results fn a.tmps).run P w = .ok v w∧res.p h undef v
theorem UD {fn:Func} (hr:fn.results = #[]):QX P Γ Λ fn fT0:=fun _ _ _ _ a w _ _ _ _=>⟨.tuple #[],by simp [results,hr],rfl⟩
theorem qx {fn:Func} {rv:ResultVar} {g:aQ} (hr:fn.results = #[rv]) (h1:LM P Γ Λ rv g):QX P Γ Λ fn g:=fun _ B F h a w L hst vN oO=>by
 obtain ⟨u,hu,hp⟩:=h1 _ B F h a w L hst vN oO
 exact ⟨u,by rw [zl];simp [hr,hu],hp⟩
theorem Oe {fn:Func} {rv rv':ResultVar} {g g':aQ} (hr:fn.results = #[rv,rv']) (h1:LM P Γ Λ rv g) (h2:LM P Γ Λ rv' g'):QX P Γ Λ fn (KT g g'):=fun _ B F h a w L hst vN oO=>by
 obtain ⟨u,hu,hp⟩:=h1 _ B F h a w L hst vN oO
 obtain ⟨u',hu',hp'⟩:=h2 _ B F h a w L hst vN oO
 exact ⟨.tuple #[u,u'],by rw [zl];simp [hr,hu,hu'],u,u',rfl,hp,hp'⟩
theorem tY {fn:Func} (hA:PostA Γ Λ vM pre post) (hR:QX P Γ Λ fn res) (hAt:At B h0 Γ Λ F n a w):Jm P fn B h0 F vM pre post none res .ret a w:=by
 obtain ⟨h,L,hl,hst,vN,oO,_,hdf⟩:=hAt
 obtain ⟨u,hu,hp⟩:=hR _ B F h a w L hst vN oO
 exact fun hB=>.inl ⟨hdf.trans hB,u,hu,u,h,L,rfl,hl,hst,hA.ok vN oO (fun _ _ _=>rfl),trivial,hp⟩
theorem XD {fn:Func} (hA:PostA Γ Λ vM pre post) (hR:QX P Γ Λ fn res) (hAt:At B h0 Γ Λ F n a w):Jm P fn B h0 F vM pre post none res .normal a w:=tY hA hR hAt
end
def Yb (C:List aQ) (h:H) (cap:List Value):Prop:=cap.length=C.length∧∀ (j:Nat) (g:aQ) (u:Value),C[j]? = some g→cap[j]? = some u→g.p h undef u
def yL (f:FuncId) (C:List aQ):aQ:=⟨none,fun h _ v=>∃ cap:List Value,v = .func (.func f) #[] cap.toArray∧Yb C h cap,fun hl ⟨cap,e,h1,k⟩=>⟨cap,e,h1,fun j g u hg hu=>g.mono hl (k j g u hg hu)⟩⟩
theorem Ei {f:FuncId} {C:List aQ} {xs:Array Operand} (hd:ul C=true) (ho:o.op = .makeFunc (.func f) #[] xs) (hargs:xg N C xs.toList):di P o N [] (yL f C) [] :=
 di.qG fun h a w _ hn=>by
  have hdp:=og hd
  obtain ⟨hlen,hall⟩:=hargs.spec
  refine ⟨.func (.func f) #[] (xs.map a.eval),by simp [execOp,ho,Instr.makeFunc],xs.toList.map a.eval,by congr 1;apply Array.ext';simp,by rw [List.length_map];exact hlen.symm,fun j g u hg hu=>?_⟩
  rw [List.getElem?_map] at hu
  cases hx:xs.toList[j]? with
  | none=>rw [hx] at hu;cases hu
  | some x =>
   rw [hx] at hu;cases hu
   have:=hall j g x hg hx h a hn
   unfold aQ.dv at this
   rw [hdp g (List.mem_of_getElem? hg)] at this
   exact this
def GN (P:Program) (N:List (Nat×aQ)) (o:Oper) (xs:List Operand) (f:FuncId) (C:List aQ):Prop :=
 ∀ (h:H) (a:Act) (w:World),Dl N h a→∃ cap:List Value,Yb C h cap∧(execOp a.eval o).run P w = .ok (.enter f (xs.map a.eval ++ cap).toArray) w
theorem eY {f:FuncId} {fn:Func} {xs:Array Operand} {ts:Array TypeId} (hf:P.funcs[f]? = some fn) (hbd:uQ fn=true) (ho:o.op = .call { callee:=.value (.func f),args:=xs,argTypes:=ts }):GN P N o xs.toList f []:=by
 intro h a w _
 simp only [uQ,Bool.and_eq_true,Bool.not_eq_true'] at hbd
 have hbody:fn.body≠none:=by
  intro hx;rw [hx] at hbd;cases hbd.1
 have hname:fn.name ≠ "runtime.NumGoroutine":=by simpa using hbd.2
 refine ⟨[],⟨rfl,fun j g u hg=>by simp at hg⟩,?_⟩
 have e:(xs.toList.map a.eval ++ []).toArray=xs.map a.eval:=by apply Array.ext';simp
 rw [e]
 simp [execOp,ho,resolve,Act.eval,Deferred.ofValue,invoke,callFunc,hf,hname,hbody]
theorem yC {f:FuncId} {fn:Func} {C:List aQ} {z:Operand} {xs:Array Operand} {ts:Array TypeId} (hf:P.funcs[f]? = some fn) (hbd:uQ fn=true) (ho:o.op = .call { callee:=.value z,args:=xs,argTypes:=ts }) (hz:bF N z (yL f C)):GN P N o xs.toList f C:=by
 intro h a w hn
 simp only [uQ,Bool.and_eq_true,Bool.not_eq_true'] at hbd
 have hbody:fn.body≠none:=by
  intro hx;rw [hx] at hbd;cases hbd.1
 have hname:fn.name ≠ "runtime.NumGoroutine":=by simpa using hbd.2
 obtain ⟨cap,hv,hc⟩:=hz h a hn
 refine ⟨cap,hc,?_⟩
 have e:(xs.toList.map a.eval ++ cap).toArray=xs.map a.eval ++ cap.toArray:=by apply Array.ext';simp
 rw [e]
 simp [execOp,ho,resolve,hv,Deferred.ofValue,invoke,callFunc,hf,hname,hbody]
def toC:List (Nat×eP)→List Nat→Nat→Option Nat
 | (k,_) :: r,g :: gs,x=>bif Nat.beq k x then some g else toC r gs x
 | _,_,_=>none
def JI:List (Nat×eP)→List Nat→Nat→Option Nat
 | (k,_) :: r,g :: gs,x=>bif Nat.beq g x then some k else JI r gs x
 | _,_,_=>none
def hasK:List (Nat×eP)→Nat→Bool
 | [],_=>false
 | (k,_) :: r,x=>Nat.beq k x||hasK r x
def I5:List (Nat×eP)→List Nat→Bool
 | (k,_) :: r,g :: gs=>!(has gs g) && !(hasK r k) && !(Nat.beq k 9999)&&I5 r gs
 | [],[]=>true
 | _,_=>false
theorem UK:∀ {pre:List (Nat×eP)} {gs:List Nat} {k g:Nat},toC pre gs k=some g→has gs g=true∧hasK pre k=true:=by
 intro pre
 induction pre with
 | nil=>intro gs k g h;cases gs <;> cases h
 | cons x r ih =>
  obtain ⟨k0,q⟩:=x
  intro gs k g h
  cases gs with
  | nil=>cases h
  | cons g0 gs =>
   simp only [toC] at h
   cases hk:Nat.beq k0 k with
   | true=>rw [hk] at h;cases h;simp [has,hasK,hk,Nat.beq_refl]
   | false=>rw [hk] at h;have:=ih h;simp [has,hasK,this.1,this.2]
theorem UL:∀ {pre:List (Nat×eP)} {gs:List Nat} {k g:Nat},JI pre gs g=some k→has gs g=true∧hasK pre k=true:=by
 intro pre
 induction pre with
 | nil=>intro gs k g h;cases gs <;> cases h
 | cons x r ih =>
  obtain ⟨k0,q⟩:=x
  intro gs k g h
  cases gs with
  | nil=>cases h
  | cons g0 gs =>
   simp only [JI] at h
   cases hk:Nat.beq g0 g with
   | true=>rw [hk] at h;cases h;simp [has,hasK,hk,Nat.beq_refl]
   | false=>rw [hk] at h;have:=ih h;simp [has,hasK,this.1,this.2]
theorem toC_of:∀ {pre:List (Nat×eP)} {gs:List Nat} {k g:Nat},I5 pre gs=true→toC pre gs k=some g→JI pre gs g=some k:=by
 intro pre
 induction pre with
 | nil=>intro gs k g _ h;cases gs <;> cases h
 | cons x r ih =>
  obtain ⟨k0,q⟩:=x
  intro gs k g hc h
  cases gs with
  | nil=>cases h
  | cons g0 gs =>
   simp only [I5,Bool.and_eq_true,Bool.not_eq_true'] at hc
   simp only [toC] at h
   simp only [JI]
   cases hk:Nat.beq k0 k with
   | true=>rw [hk] at h;cases h;rw [iQ] at hk;rw [hk,Nat.beq_refl];rfl
   | false =>
    rw [hk] at h
    have h1:=UK h
    have h2:Nat.beq g0 g=false:=by
     rw [Bool.eq_false_iff,Ne,iQ];intro e;subst e;rw [h1.1] at hc;exact absurd hc.1.1.1 (by simp)
    rw [h2];exact ih hc.2 h
theorem Yc:∀ {pre:List (Nat×eP)} {gs:List Nat} {k g:Nat},I5 pre gs=true→JI pre gs g=some k→toC pre gs k=some g:=by
 intro pre
 induction pre with
 | nil=>intro gs k g _ h;cases gs <;> cases h
 | cons x r ih =>
  obtain ⟨k0,q⟩:=x
  intro gs k g hc h
  cases gs with
  | nil=>cases h
  | cons g0 gs =>
   simp only [I5,Bool.and_eq_true,Bool.not_eq_true'] at hc
   simp only [JI] at h
   simp only [toC]
   cases hk:Nat.beq g0 g with
   | true=>rw [hk] at h;cases h;rw [iQ] at hk;rw [hk,Nat.beq_refl];rfl
   | false =>
    rw [hk] at h
    have h1:=UL h
    have h2:Nat.beq k0 k=false:=by
     rw [Bool.eq_false_iff,Ne,iQ];intro e;subst e;rw [h1.2] at hc;exact absurd hc.1.1.2 (by simp)
    rw [h2];exact ih hc.2 h
theorem VR:∀ {pre:List (Nat×eP)} {gs:List Nat},I5 pre gs=true→hasK pre 9999=false:=by
 intro pre
 induction pre with
 | nil=>intro gs _;rfl
 | cons x r ih =>
  obtain ⟨k0,q⟩:=x
  intro gs hc
  cases gs with
  | nil=>cases hc
  | cons g0 gs =>
   simp only [I5,Bool.and_eq_true,Bool.not_eq_true'] at hc
   simp only [hasK,hc.1.2,ih hc.2,Bool.or_self]
def X9:List (Nat×eP)→List Nat→List (Nat×eP)
 | (_,q) :: r,g :: gs=>(g,q) :: X9 r gs
 | _,_=>[]
def Ij:List Nat→List Po→Hr
 | g :: gs,.to q :: ps=>(g,some q) :: Ij gs ps
 | g :: gs,.gone :: ps=>(g,none) :: Ij gs ps
 | _ :: gs,.keep :: ps=>Ij gs ps
 | _,_=>[]
def PK (own:Option eP) (d:Option Nat):Hr:=match own,d with | some q,some d=>[(d,some q)] | _,_=>[]
def vV (N:List (Nat×aQ)) (xs:List Operand):List (Nat×eP)→List Po→List Nat→Prop
 | (k,q) :: r,p :: ps,g :: gs=>((Nat.ble 5000 k=true∧Gh q∧(∀ q',p = .to q'→Gh q'))∨(Nat.ble 5000 k=false∧∃ x,xs[k]? = some x∧bF N x (Qh g)))∧vV N xs r ps gs
 | [],[],[]=>True
 | _,_,_=>False
theorem vV.gh {xs:List Operand} {k g:Nat} {q:eP} {p:Po} {r ps gs} (h5:Nat.ble 5000 k=true) (h1:Gh q) (h2:∀ q',p = .to q'→Gh q') (h:vV N xs r ps gs):vV N xs ((k,q) :: r) (p :: ps) (g :: gs):=⟨.inl ⟨h5,h1,h2⟩,h⟩
def Po.nt:Po→Bool
 | .to _=>false
 | _=>true
theorem vV.gk {xs:List Operand} {k g:Nat} {q:eP} {sv:Value} {p:Po} {r ps gs} (e:(Nat.ble 5000 k,p.nt)=(true,true)) (h:vV N xs r ps gs):vV N xs ((k,eX q sv) :: r) (p :: ps) (g :: gs):=.gh (congrArg Prod.fst e) Gh.at (fun q' h2=>by have:=congrArg Prod.snd e;rw [h2] at this;cases this) h
theorem vV.slot {xs:List Operand} {k g:Nat} {q:eP} {p:Po} {x:Operand} {r ps gs} (h5:Nat.ble 5000 k=false) (h1:xs[k]? = some x) (h2:bF N x (Qh g)) (h:vV N xs r ps gs):vV N xs ((k,q) :: r) (p :: ps) (g :: gs):=⟨.inr ⟨h5,x,h1,h2⟩,h⟩
theorem FO:∀ {gs:List Nat} {post:List Po} {s:Nat},has gs s=false→qw (Ij gs post) s=none:=by
 intro gs
 induction gs with
 | nil=>intro post s _;cases post <;> rfl
 | cons g gs ih =>
  intro post s h
  cases post with
  | nil=>rfl
  | cons p ps =>
   simp only [has,Bool.or_eq_false_iff] at h
   cases p <;> simp only [Ij,qw,h.1,cond_false] <;> exact ih h.2
theorem has_of:∀ {pre:List (Nat×eP)} {gs:List Nat} {s:Nat},I5 pre gs=true→JI pre gs s=none→has gs s=false:=by
 intro pre
 induction pre with
 | nil=>intro gs s hc h;cases gs with
  | nil=>rfl
  | cons _ _=>cases hc
 | cons x r ih =>
  obtain ⟨k0,q⟩:=x
  intro gs s hc h
  cases gs with
  | nil=>rfl
  | cons g gs =>
   simp only [I5,Bool.and_eq_true,Bool.not_eq_true'] at hc
   simp only [JI] at h
   cases hb:Nat.beq g s with
   | true=>rw [hb] at h;cases h
   | false=>rw [hb] at h;simp only [has,hb,Bool.false_or];exact ih hc.2 h
section
variable {L:Nat→Option gq} {h:H} {a:Act} {xs:List Operand} {cap:List Value}
theorem pre_of {E:Nat→Option gq} (hn:Dl N h a):∀ {pre:List (Nat×eP)} {post:List Po} {gs:List Nat},vV N xs pre post gs→Vw (X9 pre gs) L a→(∀ k g,toC pre gs k=some g→E k=L g)→I5 pre gs=true→QW pre E (WQ fun k=>(xs.map a.eval ++ cap).getD k undef):=by
 intro pre
 induction pre with
 | nil=>intro post gs _ _ _ _;trivial
 | cons x r ih =>
  obtain ⟨k,q⟩:=x
  intro post gs hk hK hE hc
  cases post with
  | nil=>cases gs <;> exact hk.elim
  | cons p ps=>cases gs with
   | nil=>exact hk.elim
   | cons g gs =>
    obtain ⟨h1,h2⟩:=hk
    obtain ⟨⟨e,hL,hq⟩,hK⟩:=hK
    have hc0:=hc
    simp only [I5,Bool.and_eq_true,Bool.not_eq_true'] at hc
    refine ⟨⟨e,by rw [hE k g (by simp [toC,Nat.beq_refl])];exact hL,?_⟩,ih h2 hK (fun k' g' hk'=>hE k' g' ?_) hc.2⟩
    ·unfold WQ
     rcases h1 with ⟨h5,hg,_⟩ | ⟨h5,y,hy,hyx⟩
     ·exact hg _ _ _ hq
     ·rw [h5,cond_false]
      have hv:a.eval y=a.gt g:=hyx h a hn
      have:(xs.map a.eval ++ cap).getD k undef=a.eval y:=by
       have hlt:=(List.getElem?_eq_some_iff.1 hy).1
       rw [List.getD_eq_getElem?_getD,List.getElem?_append_left (by simpa using hlt),List.getElem?_map,hy];rfl
      show q ((xs.map a.eval ++ cap).getD k undef) e
      rw [this,hv];exact hq
    ·have h3:=UK hk'
     have:Nat.beq k k'=false:=by
      rw [Bool.eq_false_iff,Ne,iQ];intro e;subst e;rw [h3.2] at hc;exact absurd hc.1.1.2 (by simp)
     simp only [toC,this,cond_false];exact hk'
theorem upd_of {E:Nat→Option gq} {L':Nat→Option gq} {a':Act} (hn:Dl N h a) {s:Nat} (ha:a'.gt s=a.gt s):∀ {pre:List (Nat×eP)} {post:List Po} {gs:List Nat},vV N xs pre post gs→I4 pre post E (WQ fun k=>(xs.map a.eval ++ cap).getD k undef) →
  I5 pre gs=true→∀ k,JI pre gs s=some k→L' s=E k →
  (∃ q,qw (Ij gs post) s=some (some q)∧∃ e,L' s=some e∧q (a'.gt s) e)∨qw (Ij gs post) s=some none∨(qw (Ij gs post) s=none∧∃ q,(s,q) ∈ X9 pre gs∧∃ e,L' s=some e∧q (a'.gt s) e):=by
 intro pre
 induction pre with
 | nil=>intro post gs _ _ _ k hk;cases gs <;> cases hk
 | cons x r ih =>
  obtain ⟨k0,q⟩:=x
  intro post gs hk hp hc k hof hL
  cases post with
  | nil=>cases gs <;> exact hk.elim
  | cons p ps=>cases gs with
   | nil=>exact hk.elim
   | cons g gs =>
    obtain ⟨h1,h2⟩:=hk
    simp only [I5,Bool.and_eq_true,Bool.not_eq_true'] at hc
    simp only [JI] at hof
    cases hb:Nat.beq g s with
    | false =>
     rw [hb] at hof
     have hlk:qw (Ij (g :: gs) (p :: ps)) s=qw (Ij gs ps) s:=by
      cases p <;> simp [Ij,qw,hb]
     rw [hlk]
     rcases ih h2 hp.2 hc.2 k hof hL with h | h | ⟨h3,q',h4,h5⟩
     ·exact .inl h
     ·exact .inr (.inl h)
     ·exact .inr (.inr ⟨h3,q',List.mem_cons_of_mem _ h4,h5⟩)
    | true =>
     rw [hb] at hof;cases hof
     rw [iQ] at hb;subst hb
     have key:∀ q':eP,(Nat.ble 5000 k0=true→Gh q')→(∃ e,E k0=some e∧q' (WQ (fun k=>(xs.map a.eval ++ cap).getD k undef) k0) e)→∃ e,L' g=some e∧q' (a'.gt g) e:=by
      rintro q' hgh ⟨e,he,hq⟩
      refine ⟨e,by rw [hL];exact he,?_⟩
      unfold WQ at hq
      rcases h1 with ⟨h5,_,_⟩ | ⟨h5,y,hy,hyx⟩
      ·exact hgh h5 _ _ _ hq
      ·rw [h5,cond_false] at hq
       have hv:a.eval y=a.gt g:=hyx h a hn
       have:(xs.map a.eval ++ cap).getD k0 undef=a.eval y:=by
        have hlt:=(List.getElem?_eq_some_iff.1 hy).1
        rw [List.getD_eq_getElem?_getD,List.getElem?_append_left (by simpa using hlt),List.getElem?_map,hy];rfl
       have hq:q' ((xs.map a.eval ++ cap).getD k0 undef) e:=hq
       rw [this,hv] at hq
       rw [ha];exact hq
     cases p with
     | gone=>exact .inr (.inl (by simp [Ij,qw,Nat.beq_refl]))
     | to q' =>
      refine .inl ⟨q',by simp [Ij,qw,Nat.beq_refl],key q' (fun h5=>?_) hp.1⟩
      rcases h1 with ⟨_,_,hg⟩ | ⟨h6,_⟩
      ·exact hg q' rfl
      ·rw [h6] at h5;cases h5
     | keep =>
      refine .inr (.inr ⟨(by simp only [Ij];exact FO hc.1.1.1),q,List.mem_cons_self,key q (fun h5=>?_) hp.1⟩)
      rcases h1 with ⟨_,hg,_⟩ | ⟨h6,_⟩
      ·exact hg
      ·rw [h6] at h5;cases h5
end
theorem MP {U V:Hr} {s:Nat}:qw (U ++ V) s=(match qw U s with | some e=>some e | none=>qw V s):=by
 induction U with
 | nil=>rfl
 | cons x r ih =>
  obtain ⟨k,e⟩:=x
  simp only [List.cons_append,qw]
  cases Nat.beq k s with
  | true=>rfl
  | false=>exact ih
theorem fH {f:FuncId} {args C:List aQ} {pre:List (Nat×eP)} {post:List Po} {own:Option eP} {res:aQ} {xs:List Operand} {gs:List Nat} {K:List (Nat×eP)} {U:Hr}
    (hc:mW P f (args ++ C) pre post own res) (hE:GN P N o xs f C) (hd:ul (res :: args)=true) (vZ:(I5 pre gs && !(match o.dst with | some d=>has gs d | none=>false))=true)
    (hargs:xg N args xs) (hkey:vV N xs pre post gs) (hK:X9 pre gs=K) (hU:Ij gs post ++ PK own o.dst=U):di P o N K res U:=by
  subst hK;subst hU
  intro κ B F L h a w hst hn hk hdn next Q _ hnext
  simp only [Bool.and_eq_true,Bool.not_eq_true'] at vZ
  obtain ⟨hcc,hdg⟩:=vZ
  obtain ⟨cap,hcap,hrun⟩:=hE h a w hn
  have hdp:=og hd
  obtain ⟨hlen,hall⟩:=hargs.spec
  have hal:=hargs.spec.1
  unfold Oper.rJ
  rw [hrun,Ec]
  have hst1:St B h (Sum.elim (fun k=>(toC pre gs k).bind L) (Sum.elim (fun s=>if (JI pre gs s).isSome then none else L s) F)) w:=by
    refine hst.FX (fun k=>match k with | .inl k=>.inl ((toC pre gs k).getD 0) | .inr (.inl s)=>.inl s | .inr (.inr x)=>.inr x) ?_ ?_
    · intro k e he
      cases k with
      | inl k =>
        simp only [Sum.elim_inl] at he
        cases ht:toC pre gs k with
        | none=>rw [ht] at he;cases he
        | some g=>rw [ht] at he;simpa [ht] using he
      | inr k=>cases k with
        | inl s =>
          simp only [Sum.elim_inr,Sum.elim_inl] at he
          split at he
          · cases he
          · exact he
        | inr x=>exact he
    · intro k k' e e' hk1 hk2 hne
      have key:∀ k e,(toC pre gs k).bind L=some e→∃ g,toC pre gs k=some g∧JI pre gs g=some k:=by
        intro k e he
        cases ht:toC pre gs k with
        | none=>rw [ht] at he;cases he
        | some g=>exact ⟨g,rfl,toC_of hcc ht⟩
      have keyS:∀ s e,(if (JI pre gs s).isSome then none else L s)=some e→JI pre gs s=none:=by
        intro s e he
        split at he
        · cases he
        · rename_i hh;simpa using hh
      cases k with
      | inl k =>
        obtain ⟨g,hg,hg'⟩:=key k e hk1
        cases k' with
        | inl k' =>
          obtain ⟨g2,hg2,hg2'⟩:=key k' e' hk2
          intro he
          simp only [hg,hg2,Option.getD_some] at he
          have:=Sum.inl.inj he
          rw [this,hg2'] at hg';cases hg';exact hne rfl
        | inr k'=>cases k' with
          | inl s =>
            intro he
            simp only [hg,Option.getD_some] at he
            have:=Sum.inl.inj he
            have h2:=keyS s e' hk2
            rw [← this,hg'] at h2;cases h2
          | inr x=>intro he;cases he
      | inr k=>cases k with
        | inl s =>
          have h2:=keyS s e hk1
          cases k' with
          | inl k' =>
            obtain ⟨g2,hg2,hg2'⟩:=key k' e' hk2
            intro he
            simp only [hg2,Option.getD_some] at he
            have:=Sum.inl.inj he
            rw [this,hg2'] at h2;cases h2
          | inr k'=>cases k' with
            | inl s'=>intro he;exact hne (by rw [Sum.inl.inj he])
            | inr x=>intro he;cases he
        | inr x=>cases k' with
          | inl k'=>intro he;cases he
          | inr k'=>cases k' with
            | inl s'=>intro he;cases he
            | inr x'=>intro he;exact hne (by rw [Sum.inr.inj he])
  refine (hc _ B _ h w (xs.map a.eval ++ cap) _ hst1 (by rw [List.length_append,List.length_append,List.length_map,hal,hcap.1]) (pre_of hn hkey hk (fun k g hg=>by rw [hg];rfl) hcc) ?_).mono ?_
  · intro j g u hg hu
    by_cases hj:j<args.length
    · rw [List.getElem?_append_left hj] at hg
      rw [List.getElem?_append_left (by rw [List.length_map];omega),List.getElem?_map] at hu
      cases hx:xs[j]? with
      | none=>rw [hx] at hu;cases hu
      | some x =>
        rw [hx] at hu;cases hu
        have:=hall j g x hg hx h a hn
        unfold aQ.dv at this
        rw [hdp g (List.mem_cons_of_mem _ (List.mem_of_getElem? hg))] at this
        exact this
    · rw [List.getElem?_append_right (by omega)] at hg
      rw [List.getElem?_append_right (by rw [List.length_map];omega),List.length_map,← hal] at hu
      exact hcap.2 _ g u hg hu
  · rintro e w' ⟨v,h',E',rfl,hl,hst',hpost,hown,hp⟩
    refine hnext v h' w' (fun s=>if o.dst=some s then (if own.isSome then E' 9999 else none) else match JI pre gs s with | some k=>E' k | none=>L s) hl ?_ ?_ ?_
    · unfold aQ.dv
      rw [hdp res List.mem_cons_self]
      exact hp
    · refine hst'.FX (fun k => match k with | .inl s => (if o.dst = some s then .inl 9999 else match JI pre gs s with | some k => .inl k | none => .inr (.inl s)) | .inr x => .inr (.inr x)) ?_ ?_
      · intro k e he
        cases k with
        | inr x=>exact he
        | inl s =>
          simp only [Sum.elim_inl] at he
          simp only []
          split at he
          · rename_i h1
            rw [if_pos h1]
            split at he
            · exact he
            · cases he
          · rename_i h1
            rw [if_neg h1]
            cases ho:JI pre gs s with
            | some k=>rw [ho] at he;exact he
            | none=>rw [ho] at he;simpa [ho] using he
      · intro k k' e e' hk1 hk2 hne
        have k9:∀ s,JI pre gs s≠some 9999:=by
          intro s he
          have:=(UL he).2
          rw [VR hcc] at this;cases this
        cases k with
        | inr x=>cases k' with
          | inr x'=>intro he;exact hne (by rw [Sum.inr.inj (Sum.inr.inj he)])
          | inl s =>
            intro he
            simp only [] at he
            split at he
            · cases he
            · cases ho:JI pre gs s <;> rw [ho] at he <;> cases he
        | inl s=>cases k' with
          | inr x =>
            intro he
            simp only [] at he
            split at he
            · cases he
            · cases ho:JI pre gs s <;> rw [ho] at he <;> cases he
          | inl s' =>
            have hss:s≠s':=fun x=>hne (by rw [x])
            intro he
            simp only [] at he
            by_cases h1:o.dst=some s
            · by_cases h2 : o.dst = some s'
              · rw [h1] at h2;exact hss (Option.some.inj h2)
              · rw [if_pos h1,if_neg h2] at he
                cases ho:JI pre gs s' with
                | none=>rw [ho] at he;cases he
                | some k=>rw [ho] at he;exact k9 s' (by rw [ho];exact congrArg some (Sum.inl.inj he).symm)
            · by_cases h2 : o.dst = some s'
              · rw [if_neg h1,if_pos h2] at he
                cases ho:JI pre gs s with
                | none=>rw [ho] at he;cases he
                | some k=>rw [ho] at he;exact k9 s (by rw [ho];exact congrArg some (Sum.inl.inj he))
              · rw [if_neg h1,if_neg h2] at he
                cases ho:JI pre gs s with
                | none=>cases ho':JI pre gs s' with
                  | none=>rw [ho,ho'] at he;exact hss (Sum.inl.inj (Sum.inr.inj he))
                  | some k'=>rw [ho,ho'] at he;cases he
                | some k=>cases ho':JI pre gs s' with
                  | none=>rw [ho,ho'] at he;cases he
                  | some k' =>
                    rw [ho,ho'] at he
                    have:=Sum.inl.inj he
                    subst this
                    have h1:=Yc hcc ho
                    have h2:=Yc hcc ho'
                    rw [h1] at h2;exact hss (Option.some.inj h2)
    · intro s
      unfold full
      rw [MP,MP]
      by_cases hds:o.dst=some s
      · have hg : has gs s = false := by rw [hds] at hdg; exact hdg
        rw [FO hg]
        simp only []
        cases own with
        | none =>
          simp [PK,qw,hds,Nat.beq_refl]
        | some q =>
          obtain ⟨e,he,hq⟩:=hown
          simp only [PK,hds,qw,Nat.beq_refl,cond_true,if_pos,Option.isSome_some]
          exact ⟨e,he,by rw [fG (hdn s hds)];exact hq⟩
      · have ha:(a.put o.dst v).gt s=a.gt s:=Ah hds
        have hrest:∀ e,qw (PK own o.dst) s=some e→False:=by
          intro e he
          cases own with
          | none=>cases he
          | some q=>cases hd':o.dst with
            | none=>rw [hd'] at he;cases he
            | some d =>
              rw [hd'] at he
              simp only [PK,qw] at he
              cases hb:Nat.beq d s with
              | true=>rw [iQ] at hb;subst hb;exact hds hd'
              | false=>rw [hb] at he;cases he
        cases hof:JI pre gs s with
        | some k =>
          have hfin:∀ e,qw (PK own o.dst) s=some e→False:=hrest
          have h0:qw (full [] o.dst) s=none:=by
            unfold full
            cases hd':o.dst with
            | none=>rfl
            | some d =>
              simp only [List.nil_append,qw]
              cases hb:Nat.beq d s with
              | true=>rw [iQ] at hb;subst hb;exact absurd hd' hds
              | false=>rfl
          unfold full at h0
          rw [List.nil_append] at h0
          rcases upd_of (E:=E') (L':=fun s=>if o.dst=some s then (if own.isSome then E' 9999 else none) else match JI pre gs s with | some k=>E' k | none=>L s) hn ha hkey hpost hcc k hof (by simp only [if_neg hds,hof]) with ⟨q,h1,h2⟩ | h1 | ⟨h1,h2⟩
          · rw [h1];exact h2
          · rw [h1];trivial
          · rw [h1]
            simp only []
            cases hr:qw (PK own o.dst) s with
            | some e=>exact (hfin e hr).elim
            | none =>
              simp only []
              rw [h0]
              exact .inr h2
        | none =>
          rw [FO (has_of hcc hof)]
          simp only []
          cases hr:qw (PK own o.dst) s with
          | some e=>exact (hrest e hr).elim
          | none =>
            simp only []
            have:qw (full [] o.dst) s=none:=by
              unfold full
              cases hd':o.dst with
              | none=>rfl
              | some d =>
                simp only [List.nil_append,qw]
                cases hb:Nat.beq d s with
                | true=>rw [iQ] at hb;subst hb;exact absurd hd' hds
                | false=>rfl
            unfold full at this
            rw [List.nil_append] at this
            rw [this]
            exact .inl (by simp only [if_neg hds,hof])
end Go.KB
namespace Go.KB
variable {P:Program} {o:Oper} {N:List (Nat×aQ)} {α β:Type}
def MQ {S κ:Type} (f:S→κ→Option S):List κ→S→Option S
 | [],s=>some s
 | x :: r,s=>(f s x).bind (MQ f r)
open Classical in
noncomputable def MR {κ R:Type} (l:List κ) (F:List κ→Option R):Option R :=
 if h:∃ r,∀ π,π.Perm l→F π=some r then some h.choose else none
theorem QR {κ R:Type} {l:List κ} {F:List κ→Option R} {r:R} (h:MR l F=some r):∀ π,π.Perm l→F π=some r:=by
 unfold MR at h
 split at h
 ·rename_i hx;cases h;exact hx.choose_spec
 ·cases h
theorem Ko {κ R:Type} {l:List κ} {F:List κ→Option R} {r:R} (h:∀ π,π.Perm l→F π=some r):MR l F=some r:=by
 unfold MR
 have hx:∃ r,∀ π,π.Perm l→F π=some r:=⟨r,h⟩
 rw [dif_pos hx]
 have h1:=hx.choose_spec l (List.Perm.refl l)
 rw [h l (List.Perm.refl l)] at h1
 exact h1.symm
theorem QS {S κ R:Type} {f:S→κ→Option S} {K:S→Option R} {s:S} {rem r1 r2:List κ} {p:κ} {r:R} (H:∀ π,π.Perm rem→(MQ f π s).bind K=some r) (he:rem=r1 ++ p :: r2) :
  ∃ s',f s p=some s'∧∀ π,π.Perm (r1 ++ r2)→(MQ f π s').bind K=some r:=by
 have key:∀ π,π.Perm (r1 ++ r2)→(((f s p).bind (MQ f π)).bind K=some r):=fun π hp =>
  H (p :: π) (by rw [he];exact (List.Perm.cons p hp).trans List.perm_middle.symm)
 cases hs:f s p with
 | none=>have:=key _ (List.Perm.refl _);rw [hs] at this;cases this
 | some s'=>exact ⟨s',rfl,fun π hp=>by have:=key π hp;rwa [hs] at this⟩
def DN (bm bi:Nat) (f:α→Value) (rv:Rep β) (l rem:List (α×β)) (cur:Option (α×β)):gq where
 claims:=[(bm,0),(bi,0)]
 ok:=fun h m=>∃ es clock seen,m bm=some (.map es clock)∧m bi=some (.mapIter (some bm) clock seen clock)∧bm≠bi∧zU f rv h es.toList l∧Bv es.toList clock∧zU f rv h (leftOf es seen).toList rem ∧
  ∀ p,cur=some p→∃ (e:MapEntry) (seen':Array Nat),seen=seen'.push e.born∧e ∈ es.toList∧e.key=f p.1∧rv.val h e.val p.2
 mono:=by
  rintro h h' m hl ⟨es,c,s,h1,h2,h3,h4,h5,h6,h7⟩
  exact ⟨es,c,s,h1,h2,h3,h4.mono hl,h5,h6.mono hl,fun p hp=>let ⟨e,s',a,b,c,d⟩:=h7 p hp;⟨e,s',a,b,c,rv.Gq hl d⟩⟩
 frame:=fun hm ⟨es,c,s,h1,h2,h3⟩=>⟨es,c,s,by rw [hm (bm,0) (by simp)];exact h1,by rw [hm (bi,0) (by simp)];exact h2,h3⟩
def Py (sm:Value) (f:α→Value) (rv:Rep β) (l rem:List (α×β)) (cur:Option (α×β)):eP:=fun v e=>∃ bm bi,sm = .map (some bm)∧v = .pointer (some ⟨bi,0,none⟩)∧e=DN bm bi f rv l rem cur
theorem TM (es:Array MapEntry):leftOf es #[]=es:=by
 unfold leftOf
 exact Array.filter_eq_self.2 (fun x _=>by simp)
theorem zU.split {f:α→Value} {rv:Rep β} {h:H}:∀ {es:List MapEntry} {l:List (α×β)} {e:MapEntry},zU f rv h es l→e ∈ es→∃ e1 e2 r1 p r2,es=e1 ++ e :: e2∧l=r1 ++ p :: r2∧e.key=f p.1∧rv.val h e.val p.2∧zU f rv h (e1 ++ e2) (r1 ++ r2)
 | [],_,_,_,he=>by cases he
 | x :: es,[],_,hr,_=>hr.elim
 | x :: es,p :: l,e,⟨hx,hr⟩,he=>by
  rcases List.mem_cons.1 he with rfl | he
  ·exact ⟨[],es,[],p,l,rfl,rfl,hx.1,hx.2,hr⟩
  ·obtain ⟨e1,e2,r1,p',r2,h1,h2,h3,h4,h5⟩:=zU.split hr he
   exact ⟨x :: e1,e2,p :: r1,p',r2,by rw [h1];rfl,by rw [h2];rfl,h3,h4,hx,h5⟩
theorem VS {es:Array MapEntry} {seen:Array Nat} {e:MapEntry} {e1 e2:List MapEntry} (hn:(es.toList.map (·.born)).Nodup) (hl:(leftOf es seen).toList=e1 ++ e :: e2):(leftOf es (seen.push e.born)).toList=e1 ++ e2:=by
 have hnl:((leftOf es seen).toList.map (·.born)).Nodup:=by
  unfold leftOf
  rw [Array.toList_filter]
  exact (List.Sublist.map _ List.filter_sublist).nodup hn
 have h1:(leftOf es (seen.push e.born)).toList=(leftOf es seen).toList.filter (fun x=>!(x.born == e.born)):=by
  unfold leftOf
  rw [Array.toList_filter,Array.toList_filter,List.filter_filter]
  congr 1
  funext x
  rw [Array.contains_push,Bool.not_or,Bool.and_comm]
 rw [hl] at hnl
 rw [h1,hl,List.filter_append,List.filter_cons]
 have hne:∀ x,x ∈ e1∨x ∈ e2→x.born≠e.born:=by
  intro x hx heq
  rw [List.map_append,List.map_cons,List.nodup_append] at hnl
  obtain ⟨_,h3,h4⟩:=hnl
  rcases hx with hx | hx
  ·exact h4 x.born (List.mem_map.2 ⟨x,hx,rfl⟩) e.born (by simp) heq
  ·exact (List.nodup_cons.1 h3).1 (List.mem_map.2 ⟨x,hx,heq⟩)
 have f1:e1.filter (fun x=>!(x.born == e.born))=e1:=List.filter_eq_self.2 (fun x hx=>by simpa using hne x (.inl hx))
 have f2:e2.filter (fun x=>!(x.born == e.born))=e2:=List.filter_eq_self.2 (fun x hx=>by simpa using hne x (.inr hx))
 rw [f1,f2]
 simp
theorem XP {T K E:TypeId} {f:α→Value} {rv:Rep β} {g d:Nat} {sm:Value} {x:Operand} {l:List (α×β)} (hT:P.underlying T=some (.map K E)) (hgd:Nat.beq g d=false) (hd:o.dst=some d) (ho:o.op = .range T x) (hx:bF N x (jk sm)) :
    di P o N [(g,eX (qA f rv l) sm)] aQ.rD [(g,none),(d,some (Py sm f rv l l none))]:=by
  intro κ B F L h a w hst hn hk hdn next Q hnext _
  obtain ⟨e,hL,b,hv,rfl⟩:=hk.1
  have hL:L g=some (xG b f rv l):=hL
  have hx':a.eval x = .map (some b):=(hx h a hn:a.eval x=sm).trans hv
  have hne:g≠d:=fun x=>by rw [iQ.2 x] at hgd;cases hgd
  obtain ⟨es,clock,hb,hr,hB⟩:=UM hst hL
  unfold Oper.rJ
  have:(execOp a.eval o).run P w = .ok (.value (.pointer (some ⟨w.heap.size,0,none⟩))) (w.alloc (.mapIter (some b) clock #[] clock)):=by
    simp only [execOp,ho,hx',Sem.run_bind,run_range_map w T K E b es clock hT hb,Result.andThen_ok,Sem.run_pure]
  rw [this]
  obtain ⟨hcl,_⟩:=hst.own (k:=Sum.inl g) hL
  have hlt:=(hcl (b,0) (by simp [xG])).2.1
  have hno:=(hcl (b,0) (by simp [xG])).2.2
  have hm:=hst.mv g d
  have hmd:mv L g d d=some (xG b f rv l):=by simp [mv,hL]
  refine hnext _ h _ (set1 (mv L g d) d (DN b w.heap.size f rv l l none)) (nI.refl h) trivial ?_ ?_
  · refine hm.step (hnf := hm.UB) (Sum.inl d) (fun i => i = w.heap.size) (fun i hi hlt' => absurd hlt' (by omega)) (by simp) rfl rfl rfl (fun i hi _ => BM w _ hi) (nI.refl h) (fun _ _ _ _ => rfl) ?_ vg ?_
    · rintro i o' u (rfl | hi) hu
      · rw [hst.fresh (Nat.le_refl _)] at hu;cases hu
      · rw [hst.fresh hi] at hu;cases hu
    · intro e' he
      rw [vk he]
      refine ⟨fun c hc=>?_,es,clock,#[],?_,heap_alloc_new w _,by omega,hr,hB,by rw [TM];exact hr,fun p hp=>by cases hp⟩
      · simp only [DN,List.mem_cons,List.not_mem_nil,or_false] at hc
        rcases hc with rfl | rfl
        · exact ⟨.inr ⟨_,hmd,(b,0),by simp [xG],rfl⟩,by simp;omega,fun o' _=>hno o' (Nat.zero_le _)⟩
        · exact ⟨.inl (Nat.le_refl _),by simp,fun o' _=>hst.fresh (Nat.le_refl _) o'⟩
      · exact (BM w _ hlt).trans hb
  · rw [hd]
    intro k
    by_cases hkd:k=d
    · subst hkd
      have h1:qw (full [(g,none),(k,some (Py sm f rv l l none))] (some k)) k=some (some (Py sm f rv l l none)):=by
        simp [full,qw,hgd,Nat.beq_refl]
      rw [h1]
      exact ⟨_,vw,b,w.heap.size,hv,by rw [fG (hdn k hd)],rfl⟩
    · by_cases hkg : k = g
      · subst hkg
        have h1:qw (full [(k,none),(d,some (Py sm f rv l l none))] (some d)) k=some none:=by simp [full,qw,Nat.beq_refl]
        rw [h1];trivial
      · have n1 : Nat.beq g k = false := by rw [Bool.eq_false_iff, Ne, iQ]; exact fun x => hkg x.symm
        have n2:Nat.beq d k=false:=by rw [Bool.eq_false_iff,Ne,iQ];exact fun x=>hkd x.symm
        have h1:qw (full [(g,none),(d,some (Py sm f rv l l none))] (some d)) k=none:=by simp [full,qw,n1,n2]
        rw [h1]
        simp [set1,mv,hkd,hkg]

def Ji (sm si:Value) (f:α→Value) (rv:Rep β) (l rem:List (α×β)):eP:=fun v e=>(v = .tuple #[.bool false]∧rem=[]∧Py sm f rv l [] none si e) ∨
 ∃ k x r1 p r2,v = .tuple #[.bool true,k,x]∧rem=r1 ++ p :: r2∧Py sm f rv l (r1 ++ r2) (some p) si e
def XQ (sm si:Value) (f:α→Value) (rv:Rep β) (l rem:List (α×β)):eP:=fun v e=>(v = .bool false∧rem=[]∧Py sm f rv l [] none si e) ∨
 ∃ r1 p r2,v = .bool true∧rem=r1 ++ p :: r2∧Py sm f rv l (r1 ++ r2) (some p) si e
theorem it_at {κ:Type} {B:Base} {h:H} {L:Nat→Option gq} {F:κ→Option gq} {w:World} (hst:St B h (Sum.elim L F) w) {s bm bi:Nat} {f:α→Value} {rv:Rep β} {l rem:List (α×β)} {cur:Option (α×β)} (hk:L s=some (DN bm bi f rv l rem cur)) :
  ∃ es clock seen,w.heap[bm]? = some (.map es clock)∧w.heap[bi]? = some (.mapIter (some bm) clock seen clock)∧bm≠bi∧zU f rv h es.toList l∧Bv es.toList clock∧zU f rv h (leftOf es seen).toList rem ∧
  ∀ p,cur=some p→∃ (e:MapEntry) (seen':Array Nat),seen=seen'.push e.born∧e ∈ es.toList∧e.key=f p.1∧rv.val h e.val p.2:=(hst.own (k:=Sum.inl s) hk).2
theorem QY {w:World} {b:Nat} {o o':Obj} (hb:w.heap[b]? = some o):(ChangeMaps.setBlock w b o').heap[b]? = some o':=by
 have:=(Array.getElem?_eq_some_iff.1 hb).1
 simp [ChangeMaps.setBlock,this]
theorem KL {w:World} {b i:Nat} {o':Obj} (hi:i≠b):(ChangeMaps.setBlock w b o').heap[i]? = w.heap[i]?:=by
 simp [ChangeMaps.setBlock,Array.getElem?_setIfInBounds_ne (Ne.symm hi)]
theorem Zy {f:α→Value} {rv:Rep β} {g d:Nat} {sm si:Value} {x:Operand} {l rem:List (α×β)} {cur:Option (α×β)} (hgd:Nat.beq g d=false) (hd:o.dst=some d) (ho:o.op = .next x false) (hx:bF N x (jk si)) :
    di P o N [(g,eX (Py sm f rv l rem cur) si)] aQ.rD [(g,none),(d,some (Ji sm si f rv l rem))]:=by
  intro κ B F L h a w hst hn hk hdn next Q hnext _
  obtain ⟨e,hL,bm,bi,hsm,hsi,rfl⟩:=hk.1
  have hL:L g=some (DN bm bi f rv l rem cur):=hL
  have hx':a.eval x = .pointer (some ⟨bi,0,none⟩):=(hx h a hn:a.eval x=si).trans hsi
  have hne:g≠d:=fun x=>by rw [iQ.2 x] at hgd;cases hgd
  obtain ⟨es,clock,seen,hb,hi,hbi,hr,hB,hleft,_⟩:=it_at hst hL
  obtain ⟨hcl,_⟩:=hst.own (k:=Sum.inl g) hL
  have hm:=hst.mv g d
  have hmd:mv L g d d=some (DN bm bi f rv l rem cur):=by simp [mv,hL]
  have Zg:∀ (E:gq) (v:Value),Ji sm si f rv l rem v E→Ea L (set1 (mv L g d) d E) (full [(g,none),(d,some (Ji sm si f rv l rem))] o.dst) (a.put o.dst v):=by
    intro E v hq
    rw [hd]
    intro k
    by_cases hkd:k=d
    · subst hkd
      have h1:qw (full [(g,none),(k,some (Ji sm si f rv l rem))] (some k)) k=some (some (Ji sm si f rv l rem)):=by simp [full,qw,hgd,Nat.beq_refl]
      rw [h1]
      exact ⟨_,vw,by rw [fG (hdn k hd)];exact hq⟩
    · by_cases hkg : k = g
      · subst hkg
        have h1:qw (full [(k,none),(d,some (Ji sm si f rv l rem))] (some d)) k=some none:=by simp [full,qw,Nat.beq_refl]
        rw [h1];trivial
      · have n1 : Nat.beq g k = false := by rw [Bool.eq_false_iff, Ne, iQ]; exact fun x => hkg x.symm
        have n2:Nat.beq d k=false:=by rw [Bool.eq_false_iff,Ne,iQ];exact fun x=>hkd x.symm
        have h1:qw (full [(g,none),(d,some (Ji sm si f rv l rem))] (some d)) k=none:=by simp [full,qw,n1,n2]
        rw [h1]
        simp [set1,mv,hkd,hkg]
  unfold Oper.rJ
  rcases run_next_at (P:=P) w o.type bi bm clock clock seen es clock hi hb hB.2 (Nat.le_refl _) with ⟨h0,hrun⟩ | ⟨e,he,w1,hw1,hrun⟩
  · have:(execOp a.eval o).run P w = .ok (.value (.tuple #[.bool false])) w:=by
      simp only [execOp,ho,hx',Sem.run_bind,hrun,Result.andThen_ok,Sem.run_pure]
    rw [this]
    have hnil:(leftOf es seen).toList=[]:=by
      have:(leftOf es seen).toList.length=0:=by simpa using h0
      exact List.eq_nil_of_length_eq_zero this
    have Yd:rem=[]:=by
      rw [hnil] at hleft
      cases rem with
      | nil=>rfl
      | cons _ _=>exact hleft.elim
    subst Yd
    refine hnext _ h _ (set1 (mv L g d) d (DN bm bi f rv l [] none)) (nI.refl h) trivial ?_ (Zg _ _ (.inl ⟨rfl,rfl,bm,bi,hsm,hsi,rfl⟩))
    exact hm.swap hmd (fun c hc=>⟨c,hc,rfl,Nat.le_refl _⟩) ⟨es,clock,seen,hb,hi,hbi,hr,hB,hleft,fun p hp=>by cases hp⟩
  · have:(execOp a.eval o).run P w = .ok (.value (.tuple #[.bool true,e.key,e.val])) (ChangeMaps.setBlock w1 bi (.mapIter (some bm) clock (seen.push e.born) clock)):=by
      simp only [execOp,ho,hx',Sem.run_bind,hrun,Result.andThen_ok,Sem.run_pure]
    rw [this]
    have hall:w1.heap=w.heap∧w1.os=w.os∧w1.tape=w.tape∧w1.output=w.output:=by rcases hw1 with rfl | rfl <;> exact ⟨rfl,rfl,rfl,rfl⟩
    have hdrw:w.drawn≤w1.drawn:=by rcases hw1 with rfl | rfl;exact Nat.le_refl _;exact Nat.le_succ _
    obtain ⟨e1,e2,r1,p,r2,hl,Yd,hkey,hval,hrest⟩:=hleft.split he
    have hmem:e ∈ es.toList:=by
      unfold leftOf at he
      rw [Array.toList_filter] at he
      exact (List.mem_filter.1 he).1
    refine hnext _ h _ (set1 (mv L g d) d (DN bm bi f rv l (r1 ++ r2) (some p))) (nI.refl h) trivial ?_ (Zg _ _ (.inr ⟨_,_,r1,p,r2,rfl,Yd,bm,bi,hsm,hsi,rfl⟩))
    have hno:=fun o'=>(hcl (bi,0) (by simp [DN])).2.2 o' (Nat.zero_le _)
    refine hm.step (hnf:=hm.Xa (k:=Sum.inl d) hmd (by simp [DN])) (hdr:=fun _=>hdrw) (Sum.inl d) (fun i=>i=bi) (fun i hi _=>⟨_,hmd,(bi,0),by simp [DN],hi.symm⟩) (by simp [ChangeMaps.setBlock,hall.1]) hall.2.1 hall.2.2.1 hall.2.2.2 (fun i _ hi=>(KL hi).trans (by rw [hall.1])) (nI.refl h) (fun _ _ _ _=>rfl) ?_ vg ?_
    · rintro i o' u (rfl | hi') hu
      · rw [hno o'] at hu;cases hu
      · rw [hst.fresh hi'] at hu;cases hu
    · intro e' he'
      rw [vk he']
      refine ⟨fun c hc=>?_,es,clock,seen.push e.born,(KL hbi).trans (by rw [hall.1];exact hb),QY (o:=.mapIter (some bm) clock seen clock) (by rw [hall.1];exact hi),hbi,hr,hB,by rw [VS hB.1 hl];exact hrest,fun p' hp'=>?_⟩
      · obtain ⟨_,h2,h3⟩:=hcl c hc
        exact ⟨.inr ⟨_,hmd,c,hc,rfl⟩,by simpa [ChangeMaps.setBlock,hall.1] using h2,h3⟩
      · cases hp'
        exact ⟨e,seen,rfl,hmem,hkey,hval⟩
theorem TB {f:α→Value} {rv:Rep β} {g d:Nat} {sm si:Value} {l rem:List (α×β)} (hgd:Nat.beq g d=false) (hd:o.dst=some d) (ho:o.op = .extract (.tmp g) 0) :
  di P o N [(g,Ji sm si f rv l rem)] aQ.rD [(g,none),(d,some (XQ sm si f rv l rem))]:=by
 intro κ B F L h a w hst hn hk hdn next Q hnext _
 obtain ⟨e,hL,hq⟩:=hk.1
 have hL:L g=some e:=hL
 have hne:g≠d:=fun x=>by rw [iQ.2 x] at hgd;cases hgd
 unfold Oper.rJ
 rcases hq with ⟨hv,h1,h2⟩ | ⟨k,x,r1,p,r2,hv,h1,h2⟩
 ·have hv':a.eval (.tmp g) = .tuple #[.bool false]:=hv
  have:(execOp a.eval o).run P w = .ok (.value (.bool false)) w:=by simp [execOp,ho,hv',Instr.extract]
  rw [this]
  refine hnext _ h w _ (nI.refl h) trivial (hst.mv g d) ?_
  rw [hd]
  exact Iz hne hL (by rw [fG (hdn d hd)];exact .inl ⟨rfl,h1,h2⟩)
 ·have hv':a.eval (.tmp g) = .tuple #[.bool true,k,x]:=hv
  have:(execOp a.eval o).run P w = .ok (.value (.bool true)) w:=by simp [execOp,ho,hv',Instr.extract]
  rw [this]
  refine hnext _ h w _ (nI.refl h) trivial (hst.mv g d) ?_
  rw [hd]
  exact Iz hne hL (by rw [fG (hdn d hd)];exact .inr ⟨r1,p,r2,rfl,h1,h2⟩)
theorem XR [DecidableEq α] {K:TypeId} {rk:Rep α} {f:α→Value} {rv:Rep β} {g:Nat} {sm si:Value} {x:Operand} {l rem:List (α×β)} {p:α×β} (hf:zT P K rk f) (ho:o.op = .entry x) (hx:bF N x (jk si)) :
  di P o N [(g,eX (Py sm f rv l rem (some p)) si)] (KT (fV rk p.1) (fV rv p.2)) []:=by
 intro κ B F L h a w hst hn hk hdn next Q hnext _
 obtain ⟨e,hL,bm,bi,hsm,hsi,rfl⟩:=hk.1
 have hL:L g=some (DN bm bi f rv l rem (some p)):=hL
 have hx':a.eval x = .pointer (some ⟨bi,0,none⟩):=(hx h a hn:a.eval x=si).trans hsi
 obtain ⟨es,clock,seen,hb,hi,hbi,hr,hB,hleft,hc⟩:=it_at hst hL
 obtain ⟨e,seen',hs,he,hkey,hval⟩:=hc p rfl
 rw [hs] at hi
 have hrun:=run_entry_at (P:=P) w bi bm clock seen' es clock e hi hb he hB.1
 unfold Oper.rJ
 have:(execOp a.eval o).run P w = .ok (.value (.tuple #[e.key,e.val])) w:=by
  simp only [execOp,ho,hx',Sem.run_bind,hrun,Result.andThen_ok,Sem.run_pure]
 rw [this]
 exact hnext _ h w L (nI.refl h) ⟨_,_,rfl,by rw [hkey];exact hf.val h p.1,hval⟩ hst nJ
section
variable {ρ:Option Nat} {κ:Type} {B:Base} {h0:H} {Γ:Ctx} {Λ:Own} {F:κ→Option gq} {n:Nat} {a:Act} {w:World} {Q:Exit→Act→World→Prop} {sm si:Value} {f:α→Value} {rv:Rep β} {l rem:List (α×β)}
theorem At.Me {q:eP} (s g:Nat) (hsg:Nat.beq s g=false) (hAt:At B h0 Γ Λ F n a w) (hs:Λ s=some q) :
  ∃ sv,At B h0 (fun k=>bif Nat.beq s k then jk sv else Γ k) (fun k=>bif Nat.beq g k then some (eX q sv) else bif Nat.beq s k then none else Λ k) F n a w:=by
 obtain ⟨h,L,hle,hst,vN,oO,hsz,hdf⟩:=hAt
 obtain ⟨e,hL,hq⟩:=vN s q hs
 have hne:s≠g:=fun x=>by rw [iQ.2 x] at hsg;cases hsg
 refine ⟨a.gt s,h,mv L s g,hle,hst.mv s g,?_,?_,hsz,hdf⟩
 ·intro k q' hq'
  cases hk:Nat.beq g k with
  | true=>simp only [hk,cond_true] at hq';cases hq';rw [iQ] at hk;subst hk;exact ⟨e,by simp [mv,hL],hq⟩
  | false =>
   simp only [hk,cond_false] at hq'
   cases hk2:Nat.beq s k with
   | true=>simp only [hk2,cond_true] at hq';cases hq'
   | false =>
    simp only [hk2,cond_false] at hq'
    have n1:k≠g:=fun x=>by rw [iQ.2 x.symm] at hk;cases hk
    have n2:k≠s:=fun x=>by rw [iQ.2 x.symm] at hk2;cases hk2
    obtain ⟨e',h1,h2⟩:=vN k q' hq'
    exact ⟨e',by simp [mv,n1,n2,h1],h2⟩
 ·intro k
  cases hk:Nat.beq s k with
  | true=>simp only [hk,cond_true];rw [iQ] at hk;subst hk;exact rfl
  | false=>simp only [hk,cond_false];exact oO k
theorem At.X7 {q:eP} (g:Nat) {q':eP} (hAt:At B h0 Γ Λ F n a w) (hs:Λ g=some q)
  (hq:∀ v e,q v e→∃ e',q' v e'∧(∀ c ∈ e'.claims,∃ c0 ∈ e.claims,c0.1=c.1∧c0.2≤c.2)∧∀ h m,e.ok h m→e'.ok h m):At B h0 Γ (fun k=>bif Nat.beq g k then some q' else Λ k) F n a w:=by
 obtain ⟨h,L,hle,hst,vN,oO,hsz,hdf⟩:=hAt
 obtain ⟨e,hL,hq1⟩:=vN g q hs
 obtain ⟨e',hq2,hcl,hok⟩:=hq _ _ hq1
 refine ⟨h,_,hle,hst.swap hL hcl (hok _ _ (hst.own (k:=Sum.inl g) hL).2),?_,oO,hsz,hdf⟩
 intro k q1 h1
 cases hk:Nat.beq g k with
 | true=>simp only [hk,cond_true] at h1;cases h1;rw [iQ] at hk;subst hk;exact ⟨e',vw,hq2⟩
 | false =>
  simp only [hk,cond_false] at h1
  obtain ⟨e1,h2,h3⟩:=vN k q1 h1
  have n1:k≠g:=fun x=>by rw [iQ.2 x.symm] at hk;cases hk
  exact ⟨e1,by simp [set1,n1,h2],h3⟩
theorem At.uncur {cur:Option (α×β)} (g:Nat) (hAt:At B h0 Γ Λ F n a w) (hs:Λ g=some (eX (Py sm f rv l rem cur) si)):At B h0 Γ (fun k=>bif Nat.beq g k then some (eX (Py sm f rv l rem none) si) else Λ k) F n a w :=
 hAt.X7 g hs fun v e ⟨bm,bi,h1,h2,he⟩=>⟨DN bm bi f rv l rem none,⟨bm,bi,h1,h2,rfl⟩,by subst he;exact fun c hc=>⟨c,hc,rfl,Nat.le_refl _⟩,by
  subst he
  rintro h m ⟨es,c,s,k1,k2,k3,k4,k5,k6,_⟩
  exact ⟨es,c,s,k1,k2,k3,k4,k5,k6,fun p hp=>by cases hp⟩⟩
theorem At.Zz {cur:Option (α×β)} (g:Nat) (hAt:At B h0 Γ Λ F n a w) (hs:Λ g=some (eX (Py sm f rv l rem cur) si)):At B h0 Γ (fun k=>bif Nat.beq g k then some (eX (qA f rv l) sm) else Λ k) F n a w :=
 hAt.X7 g hs fun v e ⟨bm,bi,h1,h2,he⟩=>⟨xG bm f rv l,⟨bm,h1,rfl⟩,by subst he;intro c hc;exact ⟨c,by simp only [xG,List.mem_singleton] at hc;subst hc;simp [DN],rfl,Nat.le_refl _⟩,by
  subst he
  rintro h m ⟨es,c,s,k1,k2,k3,k4,k5,k6,_⟩
  exact ⟨es,c,k1,k4,k5⟩⟩
theorem VN {t:Nat} {x y:Code} (g:Nat) (hgt:Nat.beq t g=false) (hAt:At B h0 Γ Λ F n a w) (hs:Λ t=some (XQ sm si f rv l rem))
  (ht:∀ r1 p r2,rem=r1 ++ p :: r2→At B h0 Γ (fun k=>bif Nat.beq g k then some (eX (Py sm f rv l (r1 ++ r2) (some p)) si) else bif Nat.beq t k then none else Λ k) F n a w→x.rJ ρ P Q a w)
  (hf:rem=[]→At B h0 Γ (fun k=>bif Nat.beq g k then some (eX (Py sm f rv l [] none) si) else bif Nat.beq t k then none else Λ k) F n a w→y.rJ ρ P Q a w):(Code.cond (.tmp t) x y).rJ ρ P Q a w:=by
 obtain ⟨h,L,hle,hst,vN,oO,hsz,hdf⟩:=hAt
 obtain ⟨e,hL,hq⟩:=vN t _ hs
 have hne:t≠g:=fun x=>by rw [iQ.2 x] at hgt;cases hgt
 have key:∀ q:eP,q si e→At B h0 Γ (fun k=>bif Nat.beq g k then some (eX q si) else bif Nat.beq t k then none else Λ k) F n a w:=by
  intro q hq
  refine ⟨h,mv L t g,hle,hst.mv t g,?_,oO,hsz,hdf⟩
  intro k q' hq'
  cases hk:Nat.beq g k with
  | true=>simp only [hk,cond_true] at hq';cases hq';rw [iQ] at hk;subst hk;exact ⟨e,by simp [mv,hL],hq⟩
  | false =>
   simp only [hk,cond_false] at hq'
   cases hk2:Nat.beq t k with
   | true=>simp only [hk2,cond_true] at hq';cases hq'
   | false =>
    simp only [hk2,cond_false] at hq'
    have n1:k≠g:=fun x=>by rw [iQ.2 x.symm] at hk;cases hk
    have n2:k≠t:=fun x=>by rw [iQ.2 x.symm] at hk2;cases hk2
    obtain ⟨e',h1,h2⟩:=vN k q' hq'
    exact ⟨e',by simp [mv,n1,n2,h1],h2⟩
 rcases hq with ⟨hv,h1,h2⟩ | ⟨r1,p,r2,hv,h1,h2⟩
 ·exact wp_cond_split (t:=false) (show Act.eval a (.tmp t)=_ from hv) (fun e=>by cases e) (fun _=>hf h1 (key _ h2))
 ·exact wp_cond_split (t:=true) (show Act.eval a (.tmp t)=_ from hv) (fun _=>ht r1 p r2 h1 (key _ h2)) (fun e=>by cases e)
theorem QO {S R κ':Type} {body:Code} {f:S→κ'→Option S} {K:S→Option R} {r:R} {l:List κ'} (Inv:S→List κ'→Act→World→Prop) (Post:Exit→Act→World→Prop)
  (hb:∀ s rem a w,(∀ π,π.Perm rem→(MQ f π s).bind K=some r)→Inv s rem a w→body.rJ ρ P (fun e a' w'=>(e = .normal∧∃ s' r1 p r2,rem=r1 ++ p :: r2∧f s p=some s'∧Inv s' (r1 ++ r2) a' w')∨(e ≠ .normal∧Post e a' w')) a w) :
  ∀ (s0:S) (a:Act) (w:World),(∀ π,π.Perm l→(MQ f π s0).bind K=some r)→Inv s0 l a w→(Code.loop body).rJ ρ P Post a w:=by
 intro s0 a w hH hI b k cs hro hbf hrm
 have key:∀ N (l:List κ') s a w,l.length=N→(∀ π,π.Perm l→(MQ f π s).bind K=some r)→Inv s l a w →
   ∃ e a' w',Post e a' w'∧ArrivesIn (Machine.fenced P (LG ρ)) P (lone (b.atR a (.code body :: .inLoop body :: k)) cs w) b k cs e a' w':=by
  intro N
  induction N using Nat.strongRecOn with
  | _ N ih =>
   intro l s a w hl hH hI
   obtain ⟨e,a₁,w₁,hq,harr⟩:=hb s l a w hH hI b (.inLoop body :: k) cs hro hbf hrm
   rcases hq with ⟨rfl,s',r1,p,r2,he,hs,hI'⟩ | ⟨hne,hp⟩
   ·obtain ⟨s2,hs2,hH'⟩:=QS hH he
    rw [hs] at hs2;cases hs2
    obtain ⟨e₂,a₂,w₂,hq₂,harr₂⟩:=ih (r1 ++ r2).length (by rw [← hl,he];simp) (r1 ++ r2) s' a₁ w₁ rfl hH' hI'
    exact ⟨e₂,a₂,w₂,hq₂,.of_steps (StepsIn.trans harr (.one (fenced_calm hbf hrm rfl) stepR_inLoop)) harr₂⟩
   ·exact ⟨e,a₁,w₁,hp,.pass (x:=.inLoop body) rfl (fun _ _=>.inl hne) harr⟩
 obtain ⟨e,a',w',hq,harr⟩:=key _ l s0 a w rfl hH hI
 exact ⟨e,a',w',hq,.of_steps (.one (fenced_calm hbf hrm rfl) stepR_loop) harr⟩
end
end Go.KB
namespace Go.KB
variable {P:Program} {o:Oper} {N:List (Nat×aQ)} {α β:Type}
abbrev KE:=List (Nat×gq)
def JH:KE→Nat→Option gq
 | [],_=>none
 | (k,e) :: r,s=>bif Nat.beq k s then some e else JH r s
def AZ (l:KE):gq where
 claims:=l.flatMap (fun p=>p.2.claims)
 ok:=fun h m=>∀ p ∈ l,p.2.ok h m
 mono:=fun hl x p hp=>p.2.mono hl (x p hp)
 frame:=fun hm x p hp=>p.2.frame (fun c hc=>hm c (List.mem_flatMap.2 ⟨p,hp,hc⟩)) (x p hp)
def MK (l:KE):Prop:=l.Pairwise fun p p'=>Gl p.2.claims p'.2.claims
def J8:KE→Bool
 | []=>true
 | (k,_) :: r=>!((JH r k).isSome)&&J8 r
theorem Lm:∀ {l:KE} {k:Nat} {e:gq},JH l k=some e→(k,e) ∈ l:=by
 intro l
 induction l with
 | nil=>intro k e h;cases h
 | cons x r ih =>
  obtain ⟨k0,e0⟩:=x
  intro k e h
  simp only [JH] at h
  cases hk:Nat.beq k0 k with
  | true=>rw [hk] at h;cases h;rw [iQ] at hk;subst hk;simp
  | false=>rw [hk] at h;exact List.mem_cons_of_mem _ (ih h)
theorem QZ:∀ {l:KE} {k:Nat} {e:gq},(k,e) ∈ l→(JH l k).isSome=true:=by
 intro l
 induction l with
 | nil=>intro k e h;cases h
 | cons x r ih =>
  obtain ⟨k0,e0⟩:=x
  intro k e h
  simp only [JH]
  cases hk:Nat.beq k0 k with
  | true=>rfl
  | false =>
   rcases List.mem_cons.1 h with h | h
   ·cases h;rw [Nat.beq_refl] at hk;cases hk
   ·exact ih h
theorem MK.get {l:KE} (hd:MK l):∀ {k k':Nat} {e e':gq},JH l k=some e→JH l k'=some e'→k≠k'→Gl e.claims e'.claims:=by
 induction l with
 | nil=>intro k k' e e' h;cases h
 | cons x r ih =>
  obtain ⟨k0,e0⟩:=x
  intro k k' e e' h h' hne
  obtain ⟨h1,h2⟩:=List.pairwise_cons.1 hd
  simp only [JH] at h h'
  cases hk:Nat.beq k0 k with
  | true =>
   rw [hk] at h;cases h
   rw [iQ] at hk;subst hk
   have hk':Nat.beq k0 k'=false:=by rw [Bool.eq_false_iff,Ne,iQ];exact hne
   rw [hk'] at h'
   exact h1 _ (Lm h')
  | false =>
   rw [hk] at h
   cases hk':Nat.beq k0 k' with
   | true =>
    rw [hk'] at h';cases h'
    have:=h1 _ (Lm h)
    exact fun c hc c' hc' he=>this c' hc' c hc he.symm
   | false=>rw [hk'] at h';exact ih h2 h h' hne
section
variable {κ:Type} {B:Base} {h:H} {L:Nat→Option gq} {F:κ→Option gq} {w:World}
theorem ZC (hst:St B h (Sum.elim L F) w):∀ {l:KE},(∀ p ∈ l,L p.1=some p.2)→J8 l=true→MK l:=by
 intro l
 induction l with
 | nil=>intro _ _;exact List.Pairwise.nil
 | cons x r ih =>
  obtain ⟨k,e⟩:=x
  intro hL hn
  simp only [J8,Bool.and_eq_true,Bool.not_eq_true'] at hn
  refine List.pairwise_cons.2 ⟨fun p hp=>?_,ih (fun p hp=>hL p (List.mem_cons_of_mem _ hp)) hn.2⟩
  have hne:k≠p.1:=fun e'=>by
   have:=QZ (l:=r) (k:=p.1) (e:=p.2) hp
   rw [← e',hn.1] at this;cases this
  exact fun c hc c' hc'=>hst.yH (k:=.inl k) (k':=.inl p.1) (hL _ List.mem_cons_self) (hL _ (List.mem_cons_of_mem _ hp)) (fun he=>hne (Sum.inl.inj he)) c hc c' hc'
theorem St.AZ (hst:St B h (Sum.elim L F) w) {l:KE} (g:Nat) (hL:∀ p ∈ l,L p.1=some p.2):St B h (Sum.elim (fun k=>if k=g then some (AZ l) else if (JH l k).isSome then none else L k) F) w:=by
  have key:∀ k e,(if k=g then some (KB.AZ l) else if (JH l k).isSome then none else L k)=some e→(k=g∧e=KB.AZ l)∨(k≠g∧(JH l k)=none∧L k=some e):=by
    intro k e he
    split at he
    · rename_i h1;cases he;exact .inl ⟨h1,rfl⟩
    · rename_i h1
      split at he
      · cases he
      · rename_i h2
        refine .inr ⟨h1,?_,he⟩
        cases hl:JH l k with
        | none=>rfl
        | some x=>rw [hl] at h2;exact absurd rfl h2
  refine ⟨hst.low,hst.base,fun x=>hst.ext x,?_,?_,hst.mark,fun x i y=>hst.nf x i y⟩
  · intro k e he
    cases k with
    | inr x=>exact hst.own (k:=.inr x) he
    | inl k =>
      rcases key k e he with ⟨rfl,rfl⟩ | ⟨_,_,hk⟩
      · refine ⟨fun c hc => ?_, fun p hp => (hst.own (k := .inl p.1) (hL p hp)).2⟩
        obtain ⟨p,hp,hc⟩:=List.mem_flatMap.1 hc
        exact (hst.own (k:=.inl p.1) (hL p hp)).1 c hc
      · exact hst.own (k:=.inl k) hk
  · have one:∀ (x:Nat ⊕ κ) e',Sum.elim (fun k=>if k=g then some (KB.AZ l) else if (JH l k).isSome then none else L k) F x=some e'→x ≠ .inl g→∀ c ∈ (KB.AZ l).claims,∀ c' ∈ e'.claims,c.1≠c'.1:=by
      intro x e' he hx c hc c' hc'
      obtain ⟨p,hp,hc⟩:=List.mem_flatMap.1 hc
      cases x with
      | inr y=>exact hst.yH (k:=.inl p.1) (k':=.inr y) (hL p hp) he (fun h=>by cases h) c hc c' hc'
      | inl k =>
        rcases key k e' he with ⟨rfl,_⟩ | ⟨_,h1,hk⟩
        · exact absurd rfl hx
        · have hne : p.1 ≠ k := fun e' => by have := QZ (l := l) (k := p.1) (e := p.2) hp; rw [e', h1] at this; cases this
          exact hst.yH (k:=.inl p.1) (k':=.inl k) (hL p hp) hk (fun h=>hne (Sum.inl.inj h)) c hc c' hc'
    intro k k' e e' he he' hne c hc c' hc'
    by_cases h1:k = .inl g
    · subst h1
      have:e=KB.AZ l:=by
        rcases key g e he with ⟨_,h⟩ | ⟨h,_⟩
        · exact h
        · exact absurd rfl h
      subst this
      exact one k' e' he' (fun h=>hne h.symm) c hc c' hc'
    · by_cases h2 : k' = .inl g
      · subst h2
        have:e'=KB.AZ l:=by
          rcases key g e' he' with ⟨_,h⟩ | ⟨h,_⟩
          · exact h
          · exact absurd rfl h
        subst this
        exact fun h=>one k e he h1 c' hc' c hc h.symm
      · have tr:∀ (x:Nat ⊕ κ) e',Sum.elim (fun k=>if k=g then some (KB.AZ l) else if (JH l k).isSome then none else L k) F x=some e'→x ≠ .inl g→Sum.elim L F x=some e':=by
          intro x e' he hx
          cases x with
          | inr y=>exact he
          | inl k =>
            rcases key k e' he with ⟨rfl,_⟩ | ⟨_,_,hk⟩
            · exact absurd rfl hx
            · exact hk
        exact hst.yH (tr k e he h1) (tr k' e' he' h2) hne c hc c' hc'
theorem St.splitK (hst:St B h (Sum.elim L F) w) {l:KE} {g:Nat} (hg:L g=some (KB.AZ l)) (hd:MK l):St B h (Sum.elim (fun k=>match JH l k with | some e=>some e | none=>if k=g then none else L k) F) w:=by
 obtain ⟨hcl,hok⟩:=hst.own (k:=.inl g) hg
 have key:∀ k e,(match JH l k with | some e=>some e | none=>if k=g then none else L k)=some e→JH l k=some e∨(JH l k=none∧k≠g∧L k=some e):=by
  intro k e he
  cases hl:JH l k with
  | some e0=>rw [hl] at he;cases he;exact .inl rfl
  | none =>
   rw [hl] at he
   simp only [] at he
   split at he
   ·cases he
   ·rename_i h1;exact .inr ⟨rfl,h1,he⟩
 have cl:∀ {k e c},JH l k=some e→c ∈ e.claims→c ∈ (KB.AZ l).claims:=fun hk hc=>List.mem_flatMap.2 ⟨_,Lm hk,hc⟩
 refine ⟨hst.low,hst.base,fun x=>hst.ext x,?_,?_,hst.mark,fun x i y=>hst.nf x i y⟩
 ·intro k e he
  cases k with
  | inr x=>exact hst.own (k:=.inr x) he
  | inl k =>
   rcases key k e he with hk | ⟨_,_,hk⟩
   ·exact ⟨fun c hc=>hcl c (cl hk hc),hok _ (Lm hk)⟩
   ·exact hst.own (k:=.inl k) hk
 ·intro k k' e e' he he' hne c hc c' hc'
  have out:∀ (x:Nat ⊕ κ) e',Sum.elim (fun k=>match JH l k with | some e=>some e | none=>if k=g then none else L k) F x=some e'→(∃ k,x = .inl k∧JH l k=some e')∨(x ≠ .inl g∧Sum.elim L F x=some e'):=by
   intro x e' he
   cases x with
   | inr y=>exact .inr ⟨fun h=>(by cases h),he⟩
   | inl k =>
    rcases key k e' he with hk | ⟨_,h1,hk⟩
    ·exact .inl ⟨k,rfl,hk⟩
    ·exact .inr ⟨fun h=>h1 (Sum.inl.inj h),hk⟩
  rcases out k e he with ⟨k1,rfl,h1⟩ | ⟨h1,h2⟩
  ·rcases out k' e' he' with ⟨k2,rfl,h3⟩ | ⟨h3,h4⟩
   ·exact hd.get h1 h3 (fun h=>hne (by rw [h])) c hc c' hc'
   ·exact hst.yH (k:=.inl g) hg h4 (fun h=>h3 h.symm) c (cl h1 hc) c' hc'
  ·rcases out k' e' he' with ⟨k2,rfl,h3⟩ | ⟨h3,h4⟩
   ·exact hst.yH h2 (k':=.inl g) hg h1 c hc c' (cl h3 hc')
   ·exact hst.yH h2 h4 hne c hc c' hc'
end
def mark (D:Nat):Deferred:={ target:=.collected D,args:=#[] }
section
variable {κ:Type} {B:Base} {h h0:H} {L:Nat→Option gq} {Γ:Ctx} {Λ:Own} {F:κ→Option gq} {n:Nat} {a:Act} {w:World} {l D:Nat} {r:Loop}
end
end Go.KB
namespace Go.KB
variable {P:Program}
def PI:List Nat→Bool
 | []=>true
 | k :: r=>!(has r k)&&PI r
section
variable {κ:Type} {B:Base} {h0:H} {Λ:Own} {F:κ→Option gq} {n:Nat} {a:Act} {w:World}
end
end Go.KB
