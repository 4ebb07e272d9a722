/- Functions that use what lies at known places: entries under keys that are slots, or no slots. Ranges over maps that are owned: whatever the order. Ranges over functions: the iterator, yield, the rounds. The rule on ranges over functions. No condition. -/
import Derived.Test.YtochfcfkpachcaaGreatDoorKZd
import Derived.Maps.RangeRun
import Derived.RangeFuncCalls
import Derived.RangeFuncBound
namespace Go.KB
variable {P:Program} {o:Oper} {N:List (Nat×bD)} {α β γ:Type}
def TM (vs:Nat→Value) (k:Nat):Value:=bif Nat.ble 5000 k then undef else vs k
def Oq:List (Nat×gQ)→(Nat→Option jh)→(Nat→Value)→Prop
 | [],_,_=>True
 | (k,q) :: r,E,g=>(∃ e,E k=some e∧q (g k) e)∧Oq r E g
inductive Po where
 | keep
 | to (q:gQ)
 | gone
def Gt:List (Nat×gQ)→List Po→(Nat→Option jh)→(Nat→Value)→Prop
 | (k,q0) :: r,p :: ps,E,g=>(match p with | .to q=>∃ e,E k=some e∧q (g k) e | .keep=>∃ e,E k=some e∧q0 (g k) e | .gone=>True)∧Gt r ps E g
 | _,_,_,_=>True
def YN (own:Option gQ) (E:Nat→Option jh) (u:Value):Prop:=match own with | some q=>∃ e,E 9999=some e∧q u e | none=>True
def iH (P:Program) (f:FuncId) (args:List bD) (pre:List (Nat×gQ)) (post:List Po) (own:Option gQ) (res:bD):Prop :=
 ∀ (κ:Type) (B:Base) (L:κ→Option jh) (h:H) (w:World) (vs:List Value) (E:Nat→Option jh),St B h (Sum.elim E L) w→args.length=vs.length→Oq pre E (TM fun k=>vs.getD k undef) →
  (∀ (j:Nat) (g:bD) (u:Value),args[j]? = some g→vs[j]? = some u→g.p h undef u) →
  Calls P f vs.toArray w (fun e w'=>∃ u h' E',e = .returned u∧nO h h'∧St B h' (Sum.elim E' L) w'∧Gt pre post E' (TM fun k=>vs.getD k undef)∧YN own E' u∧res.p h' undef u)
def BO (P:Program) (fn:Func) {κ:Type} (B:Base) (h0:H) (F:κ→Option jh) (vM:Nat→Value) (pre:List (Nat×gQ)) (post:List Po) (own:Option gQ) (res:bD):Exit→Act→World→Prop :=
 fun e a w=>B.df=[]→JG P fn (fun e w'=>∃ u h' E',e = .returned u∧nO h0 h'∧St B h' (Sum.elim E' F) w'∧Gt pre post E' (TM vM)∧YN own E' u∧res.p h' undef u) e a w
theorem Oq.get {E:Nat→Option jh} {g:Nat→Value}:∀ {pre:List (Nat×gQ)},Oq pre E g→∀ {k q},Ej pre k=some q→∃ e,E k=some e∧q (g k) e:=by
 intro pre
 induction pre with
 | nil=>intro _ k q h;cases h
 | cons x r ih =>
  obtain ⟨k0,q0⟩:=x
  intro h k q hq
  simp only [Ej,VG] at hq
  cases hk:Nat.beq k0 k with
  | true=>rw [hk] at hq;cases hq;rw [jg] at hk;subst hk;exact h.1
  | false=>rw [hk] at hq;exact ih h.2 hq
def pmG (pm:List Nat) (vM:Nat→Value):List (Nat×bD):=pm.map fun i=>(i,fJ (vM i))
theorem lkF_pm {Γ:List (Nat×bD)} {vM:Nat→Value}:∀ {pm:List Nat} {s:Nat},SG (pmG pm vM ++ Γ) s=fJ (vM s)∨SG (pmG pm vM ++ Γ) s=SG Γ s:=by
 intro pm
 induction pm with
 | nil=>intro s;exact .inr rfl
 | cons i r ih =>
  intro s
  show (bif Nat.beq i s then fJ (vM i) else SG (pmG r vM ++ Γ) s)=_∨(bif Nat.beq i s then fJ (vM i) else SG (pmG r vM ++ Γ) s)=_
  cases hk:Nat.beq i s with
  | true=>rw [jg] at hk;subst hk;exact .inl rfl
  | false=>exact ih
theorem Ot {vs:List Value} {m:Nat} (k:Nat):Act.gt { tmps:=vs.toArray ++ Array.replicate m undef,defers:=[] } k=vs.getD k undef:=by
  simp only [Act.gt,Array.getD_eq_getD_getElem?,List.getD_eq_getElem?_getD]
  by_cases hk:k<vs.length
  · rw [Array.getElem?_append_left (by simpa using hk)];simp
  · rw [Array.getElem?_append_right (by simp; omega)]
    simp only [Array.getElem?_replicate,List.getElem?_eq_none (Nat.le_of_not_lt hk)]
    split <;> rfl
theorem dB {n:Nat} {f:FuncId} {fn:Func} {c:Code} {args:List bD} {pre:List (Nat×gQ)} {post:List Po} {own:Option gQ} {res:bD} (pm:List Nat) (hf:P.funcs[f]? = some fn) (hb:fn.body=some c) (hn:fn.ntmps=n)
  (uH:(Nat.ble args.length n&&Nat.ble n 5000&&qw args)=true)
  (hwp:∀ (κ:Type) (B:Base) (h0:H) (F:κ→Option jh) (a:Act) (w:World) (vM:Nat→Value),At B h0 (GR (pmG pm vM ++ JH 0 args)) (Ej pre) F n a w→c.qB none P (BO P fn B h0 F vM pre post own res) a w):iH P f args pre post own res:=by
 intro κ B L h w vs E hst hl hpre hargs
 simp only [Bool.and_eq_true,Nat.ble_eq] at uH
 obtain ⟨⟨hlen,hn5⟩,hdp⟩:=uH
 have Em:=oz hdp
 refine F6 rfl hf hb (hwp _ B.e h L _ w (fun k=>vs.getD k undef) ⟨h,E,nO.refl h,hst.toE,?_,?_,?_,rfl⟩) (fun _ _ ⟨v,h',x,he,hl,hs,hp⟩=>⟨v,h',x,he,hl,hs.ofE,hp⟩)
 ·intro s q hs
  obtain ⟨e,he,hq⟩:=hpre.get hs
  refine ⟨e,he,?_⟩
  rw [Ot]
  unfold TM at hq
  cases h5:Nat.ble 5000 s with
  | false=>rw [h5] at hq;exact hq
  | true =>
   rw [h5] at hq
   rw [Nat.ble_eq] at h5
   rw [List.getD_eq_getElem?_getD,List.getElem?_eq_none (by omega)]
   exact hq
 ·intro s
  rcases lkF_pm (pm:=pm) (Γ:=JH 0 args) (vM:=fun k=>vs.getD k undef) (s:=s) with h1 | h1
  ·show (SG (pmG pm _ ++ JH 0 args) s).at _ _ _
   rw [h1];exact Ot s
  ·show (SG (pmG pm _ ++ JH 0 args) s).at _ _ _
   rw [h1]
   rcases KP args 0 s with h1 | ⟨j,g,h1,h2,h3⟩
   ·rw [h1];exact trivial
   ·rw [h3]
    have hj:=(List.getElem?_eq_some_iff.1 h1).1
    have hv:vs[j]? = some vs[j]:=List.getElem?_eq_getElem (by omega)
    have:=hargs j g _ h1 hv
    unfold bD.at bD.dv
    rw [Em g (List.mem_of_getElem? h1),h2,Nat.zero_add,Ot,List.getD_eq_getElem?_getD,hv]
    exact this
 ·simp;omega
section
variable {κ:Type} {B:Base} {h h0:H} {L:Nat→Option jh} {Γ:Ctx} {Λ:Own} {F:κ→Option jh} {n:Nat} {a:Act} {w:World} {vM:Nat→Value} {pre:List (Nat×gQ)} {post:List Po} {res:bD}
def Gh (q:gQ):Prop:=∀ v v' e,q v e→q v' e
theorem Gh.at {q:gQ} {sv:Value}:Gh (dm q sv):=fun _ _ _ h=>h
def PostA (Γ:Ctx) (Λ:Own) (vM:Nat→Value):List (Nat×gQ)→List Po→Prop
 | (k,q0) :: r,p :: ps=>(match p with | .to q=>Λ k=some q∧((Nat.ble 5000 k=true∧Gh q)∨(Nat.ble 5000 k=false∧Γ k=fJ (vM k))) | .keep=>Λ k=some q0∧((Nat.ble 5000 k=true∧Gh q0)∨(Nat.ble 5000 k=false∧Γ k=fJ (vM k))) | .gone=>True)∧PostA Γ Λ vM r ps
 | _,_=>True
theorem dP {x:Option gQ} {b:Bool} {q:gQ} {sv:Value} {X:Prop} (e:(x,b)=(some (dm q sv),true)):x=some (dm q sv)∧((b=true∧Gh (dm q sv))∨X):=⟨congrArg Prod.fst e,.inl ⟨congrArg Prod.snd e,Gh.at⟩⟩
theorem PostA.ok {E:Nat→Option jh} (rP:NF Λ L a) (mV:Sat Γ h a):∀ {pre:List (Nat×gQ)} {post:List Po},PostA Γ Λ vM pre post→(∀ k q,(k,q) ∈ pre→E k=L k)→Gt pre post E (TM vM):=by
 intro pre
 induction pre with
 | nil=>intro post _ _;cases post <;> trivial
 | cons x r ih =>
  obtain ⟨k,q0⟩:=x
  intro post hp hE
  cases post with
  | nil=>trivial
  | cons p ps =>
   refine ⟨?_,ih hp.2 (fun k q hk=>hE k q (List.mem_cons_of_mem _ hk))⟩
   have key:∀ q,Λ k=some q∧((Nat.ble 5000 k=true∧Gh q)∨(Nat.ble 5000 k=false∧Γ k=fJ (vM k)))→∃ e,E k=some e∧q (TM vM k) e:=by
    rintro q ⟨h1,h2⟩
    obtain ⟨e,hL,hq⟩:=rP k q h1
    refine ⟨e,by rw [hE k q0 (by simp)];exact hL,?_⟩
    unfold TM
    rcases h2 with ⟨h5,hg⟩ | ⟨h5,hf⟩
    ·exact hg _ _ _ hq
    ·rw [h5,cond_false]
     have:=mV k
     rw [hf] at this
     have hv:a.gt k=vM k:=this
     rw [← hv];exact hq
   cases p with
   | gone=>trivial
   | to q=>exact key q hp.1
   | keep=>exact key q0 hp.1
def Qw (P:Program) (Γ:Ctx) (Λ:Own) (fn:Func) (res:bD):Prop :=
 ∀ (κ:Type) (B:Base) (F:κ→Option jh) (h:H) (a:Act) (w:World),∀ L,St B h (Sum.elim L F) w→NF Λ L a→Sat Γ h a→∃ v,(results fn a.tmps).run P w = .ok v w∧res.p h undef v
theorem LZ {fn:Func} (hr:fn.results = #[]):Qw P Γ Λ fn fT0:=fun _ _ _ _ a w _ _ _ _=>⟨.tuple #[],by simp [results,hr],rfl⟩
theorem iD {fn:Func} {rv:ResultVar} {g:bD} (hr:fn.results = #[rv]) (h1:Jc P Γ Λ rv g):Qw P Γ Λ fn g:=fun _ B F h a w L hst rP mV=>by
 obtain ⟨u,hu,hp⟩:=h1 _ B F h a w L hst rP mV
 exact ⟨u,by rw [wV];simp [hr,hu],hp⟩
theorem AB {fn:Func} {rv rv':ResultVar} {g g':bD} (hr:fn.results = #[rv,rv']) (h1:Jc P Γ Λ rv g) (h2:Jc P Γ Λ rv' g'):Qw P Γ Λ fn (Cc g g'):=fun _ B F h a w L hst rP mV=>by
 obtain ⟨u,hu,hp⟩:=h1 _ B F h a w L hst rP mV
 obtain ⟨u',hu',hp'⟩:=h2 _ B F h a w L hst rP mV
 exact ⟨.tuple #[u,u'],by rw [wV];simp [hr,hu,hu'],u,u',rfl,hp,hp'⟩
theorem Tv {fn:Func} {rv rv' rv'':ResultVar} {g g' g'':bD} (hr:fn.results = #[rv,rv',rv'']) (h1:Jc P Γ Λ rv g) (h2:Jc P Γ Λ rv' g') (h3:Jc P Γ Λ rv'' g''):Qw P Γ Λ fn (WS g g' g''):=fun _ B F h a w L hst rP mV=>by
 obtain ⟨u,hu,hp⟩:=h1 _ B F h a w L hst rP mV
 obtain ⟨u',hu',hp'⟩:=h2 _ B F h a w L hst rP mV
 obtain ⟨u'',hu'',hp''⟩:=h3 _ B F h a w L hst rP mV
 exact ⟨.tuple #[u,u',u''],by rw [wV];simp [hr,hu,hu',hu''],u,u',u'',rfl,hp,hp',hp''⟩
theorem jc {fn:Func} (hA:PostA Γ Λ vM pre post) (hR:Qw P Γ Λ fn res) (hAt:At B h0 Γ Λ F n a w):BO P fn B h0 F vM pre post none res .ret a w:=by
 obtain ⟨h,L,hl,hst,rP,mV,_,hdf⟩:=hAt
 obtain ⟨u,hu,hp⟩:=hR _ B F h a w L hst rP mV
 exact fun hB=>.inl ⟨hdf.trans hB,u,hu,u,h,L,rfl,hl,hst,hA.ok rP mV (fun _ _ _=>rfl),trivial,hp⟩
theorem VU {fn:Func} (hA:PostA Γ Λ vM pre post) (hR:Qw P Γ Λ fn res) (hAt:At B h0 Γ Λ F n a w):BO P fn B h0 F vM pre post none res .normal a w:=jc hA hR hAt
end
def YO (C:List bD) (h:H) (cap:List Value):Prop:=cap.length=C.length∧∀ (j:Nat) (g:bD) (u:Value),C[j]? = some g→cap[j]? = some u→g.p h undef u
def jW (f:FuncId) (C:List bD):bD:=⟨none,fun h _ v=>∃ cap:List Value,v = .func (.func f) #[] cap.toArray∧YO C h cap,fun hl ⟨cap,e,h1,k⟩=>⟨cap,e,h1,fun j g u hg hu=>g.mono hl (k j g u hg hu)⟩⟩
theorem uX {f:FuncId} {C:List bD} {xs:Array Operand} (hd:qw C=true) (ho:o.op = .makeFunc (.func f) #[] xs) (hargs:wW N C xs.toList):fC P o N [] (jW f C) [] :=
 fC.rM fun h a w _ hn=>by
  have hdp:=oz hd
  obtain ⟨hlen,hall⟩:=hargs.spec
  refine ⟨.func (.func f) #[] (xs.map a.eval),by simp [execOp,ho,Instr.makeFunc],xs.toList.map a.eval,by congr 1;apply Array.ext';simp,by rw [List.length_map];exact hlen.symm,fun j g u hg hu=>?_⟩
  rw [List.getElem?_map] at hu
  cases hx:xs.toList[j]? with
  | none=>rw [hx] at hu;cases hu
  | some x =>
   rw [hx] at hu;cases hu
   have:=hall j g x hg hx h a hn
   unfold bD.dv at this
   rw [hdp g (List.mem_of_getElem? hg)] at this
   exact this
def J6 (P:Program) (N:List (Nat×bD)) (o:Oper) (xs:List Operand) (f:FuncId) (C:List bD):Prop :=
 ∀ (h:H) (a:Act) (w:World),EZ N h a→∃ cap:List Value,YO C h cap∧(execOp a.eval o).run P w = .ok (.enter f (xs.map a.eval ++ cap).toArray) w
theorem bW {f:FuncId} {fn:Func} {xs:Array Operand} {ts:Array TypeId} (hf:P.funcs[f]? = some fn) (hbd:vO fn=true) (ho:o.op = .call { callee:=.value (.func f),args:=xs,argTypes:=ts }):J6 P N o xs.toList f []:=by
 intro h a w _
 simp only [vO,Bool.and_eq_true,Bool.not_eq_true'] at hbd
 have hbody:fn.body≠none:=by
  intro hx;rw [hx] at hbd;cases hbd.1
 have hname:fn.name ≠ "runtime.NumGoroutine":=by simpa using hbd.2
 refine ⟨[],⟨rfl,fun j g u hg=>by simp at hg⟩,?_⟩
 have e:(xs.toList.map a.eval ++ []).toArray=xs.map a.eval:=by apply Array.ext';simp
 rw [e]
 simp [execOp,ho,resolve,Act.eval,Deferred.ofValue,invoke,callFunc,hf,hname,hbody]
theorem oh {f:FuncId} {fn:Func} {C:List bD} {z:Operand} {xs:Array Operand} {ts:Array TypeId} (hf:P.funcs[f]? = some fn) (hbd:vO fn=true) (ho:o.op = .call { callee:=.value z,args:=xs,argTypes:=ts }) (hz:dD N z (jW f C)):J6 P N o xs.toList f C:=by
 intro h a w hn
 simp only [vO,Bool.and_eq_true,Bool.not_eq_true'] at hbd
 have hbody:fn.body≠none:=by
  intro hx;rw [hx] at hbd;cases hbd.1
 have hname:fn.name ≠ "runtime.NumGoroutine":=by simpa using hbd.2
 obtain ⟨cap,hv,hc⟩:=hz h a hn
 refine ⟨cap,hc,?_⟩
 have e:(xs.toList.map a.eval ++ cap).toArray=xs.map a.eval ++ cap.toArray:=by apply Array.ext';simp
 rw [e]
 simp [execOp,ho,resolve,hv,Deferred.ofValue,invoke,callFunc,hf,hname,hbody]
def toC:List (Nat×gQ)→List Nat→Nat→Option Nat
 | (k,_) :: r,g :: gs,x=>bif Nat.beq k x then some g else toC r gs x
 | _,_,_=>none
def Eh:List (Nat×gQ)→List Nat→Nat→Option Nat
 | (k,_) :: r,g :: gs,x=>bif Nat.beq g x then some k else Eh r gs x
 | _,_,_=>none
def hasK:List (Nat×gQ)→Nat→Bool
 | [],_=>false
 | (k,_) :: r,x=>Nat.beq k x||hasK r x
def FP:List (Nat×gQ)→List Nat→Bool
 | (k,_) :: r,g :: gs=>!(has gs g) && !(hasK r k) && !(Nat.beq k 9999)&&FP r gs
 | [],[]=>true
 | _,_=>false
theorem V9:∀ {pre:List (Nat×gQ)} {gs:List Nat} {k g:Nat},toC pre gs k=some g→has gs g=true∧hasK pre k=true:=by
 intro pre
 induction pre with
 | nil=>intro gs k g h;cases gs <;> cases h
 | cons x r ih =>
  obtain ⟨k0,q⟩:=x
  intro gs k g h
  cases gs with
  | nil=>cases h
  | cons g0 gs =>
   simp only [toC] at h
   cases hk:Nat.beq k0 k with
   | true=>rw [hk] at h;cases h;simp [has,hasK,hk,Nat.beq_refl]
   | false=>rw [hk] at h;have:=ih h;simp [has,hasK,this.1,this.2]
theorem RD:∀ {pre:List (Nat×gQ)} {gs:List Nat} {k g:Nat},Eh pre gs g=some k→has gs g=true∧hasK pre k=true:=by
 intro pre
 induction pre with
 | nil=>intro gs k g h;cases gs <;> cases h
 | cons x r ih =>
  obtain ⟨k0,q⟩:=x
  intro gs k g h
  cases gs with
  | nil=>cases h
  | cons g0 gs =>
   simp only [Eh] at h
   cases hk:Nat.beq g0 g with
   | true=>rw [hk] at h;cases h;simp [has,hasK,hk,Nat.beq_refl]
   | false=>rw [hk] at h;have:=ih h;simp [has,hasK,this.1,this.2]
theorem YP:∀ {pre:List (Nat×gQ)} {gs:List Nat} {k g:Nat},FP pre gs=true→toC pre gs k=some g→Eh pre gs g=some k:=by
 intro pre
 induction pre with
 | nil=>intro gs k g _ h;cases gs <;> cases h
 | cons x r ih =>
  obtain ⟨k0,q⟩:=x
  intro gs k g hc h
  cases gs with
  | nil=>cases h
  | cons g0 gs =>
   simp only [FP,Bool.and_eq_true,Bool.not_eq_true'] at hc
   simp only [toC] at h
   simp only [Eh]
   cases hk:Nat.beq k0 k with
   | true=>rw [hk] at h;cases h;rw [jg] at hk;rw [hk,Nat.beq_refl];rfl
   | false =>
    rw [hk] at h
    have h1:=V9 h
    have h2:Nat.beq g0 g=false:=by
     rw [Bool.eq_false_iff,Ne,jg];intro e;subst e;rw [h1.1] at hc;exact absurd hc.1.1.1 (by simp)
    rw [h2];exact ih hc.2 h
theorem RF:∀ {pre:List (Nat×gQ)} {gs:List Nat} {k g:Nat},FP pre gs=true→Eh pre gs g=some k→toC pre gs k=some g:=by
 intro pre
 induction pre with
 | nil=>intro gs k g _ h;cases gs <;> cases h
 | cons x r ih =>
  obtain ⟨k0,q⟩:=x
  intro gs k g hc h
  cases gs with
  | nil=>cases h
  | cons g0 gs =>
   simp only [FP,Bool.and_eq_true,Bool.not_eq_true'] at hc
   simp only [Eh] at h
   simp only [toC]
   cases hk:Nat.beq g0 g with
   | true=>rw [hk] at h;cases h;rw [jg] at hk;rw [hk,Nat.beq_refl];rfl
   | false =>
    rw [hk] at h
    have h1:=RD h
    have h2:Nat.beq k0 k=false:=by
     rw [Bool.eq_false_iff,Ne,jg];intro e;subst e;rw [h1.2] at hc;exact absurd hc.1.1.2 (by simp)
    rw [h2];exact ih hc.2 h
theorem Xn:∀ {pre:List (Nat×gQ)} {gs:List Nat},FP pre gs=true→hasK pre 9999=false:=by
 intro pre
 induction pre with
 | nil=>intro gs _;rfl
 | cons x r ih =>
  obtain ⟨k0,q⟩:=x
  intro gs hc
  cases gs with
  | nil=>cases hc
  | cons g0 gs =>
   simp only [FP,Bool.and_eq_true,Bool.not_eq_true'] at hc
   simp only [hasK,hc.1.2,ih hc.2,Bool.or_self]
def TL:List (Nat×gQ)→List Nat→List (Nat×gQ)
 | (_,q) :: r,g :: gs=>(g,q) :: TL r gs
 | _,_=>[]
def IY:List Nat→List Po→I5
 | g :: gs,.to q :: ps=>(g,some q) :: IY gs ps
 | g :: gs,.gone :: ps=>(g,none) :: IY gs ps
 | _ :: gs,.keep :: ps=>IY gs ps
 | _,_=>[]
def Rz (own:Option gQ) (d:Option Nat):I5:=match own,d with | some q,some d=>[(d,some q)] | _,_=>[]
def vF (N:List (Nat×bD)) (xs:List Operand):List (Nat×gQ)→List Po→List Nat→Prop
 | (k,q) :: r,p :: ps,g :: gs=>((Nat.ble 5000 k=true∧Gh q∧(∀ q',p = .to q'→Gh q'))∨(Nat.ble 5000 k=false∧∃ x,xs[k]? = some x∧dD N x (UI g)))∧vF N xs r ps gs
 | [],[],[]=>True
 | _,_,_=>False
theorem vF.gh {xs:List Operand} {k g:Nat} {q:gQ} {p:Po} {r ps gs} (h5:Nat.ble 5000 k=true) (h1:Gh q) (h2:∀ q',p = .to q'→Gh q') (h:vF N xs r ps gs):vF N xs ((k,q) :: r) (p :: ps) (g :: gs):=⟨.inl ⟨h5,h1,h2⟩,h⟩
def Po.nt:Po→Bool
 | .to _=>false
 | _=>true
theorem vF.gk {xs:List Operand} {k g:Nat} {q:gQ} {sv:Value} {p:Po} {r ps gs} (e:(Nat.ble 5000 k,p.nt)=(true,true)) (h:vF N xs r ps gs):vF N xs ((k,dm q sv) :: r) (p :: ps) (g :: gs):=.gh (congrArg Prod.fst e) Gh.at (fun q' h2=>by have:=congrArg Prod.snd e;rw [h2] at this;cases this) h
theorem vF.slot {xs:List Operand} {k g:Nat} {q:gQ} {p:Po} {x:Operand} {r ps gs} (h5:Nat.ble 5000 k=false) (h1:xs[k]? = some x) (h2:dD N x (UI g)) (h:vF N xs r ps gs):vF N xs ((k,q) :: r) (p :: ps) (g :: gs):=⟨.inr ⟨h5,x,h1,h2⟩,h⟩
theorem Gv:∀ {gs:List Nat} {post:List Po} {s:Nat},has gs s=false→rY (IY gs post) s=none:=by
 intro gs
 induction gs with
 | nil=>intro post s _;cases post <;> rfl
 | cons g gs ih =>
  intro post s h
  cases post with
  | nil=>rfl
  | cons p ps =>
   simp only [has,Bool.or_eq_false_iff] at h
   cases p <;> simp only [IY,rY,h.1,cond_false] <;> exact ih h.2
theorem has_of:∀ {pre:List (Nat×gQ)} {gs:List Nat} {s:Nat},FP pre gs=true→Eh pre gs s=none→has gs s=false:=by
 intro pre
 induction pre with
 | nil=>intro gs s hc h;cases gs with
  | nil=>rfl
  | cons _ _=>cases hc
 | cons x r ih =>
  obtain ⟨k0,q⟩:=x
  intro gs s hc h
  cases gs with
  | nil=>rfl
  | cons g gs =>
   simp only [FP,Bool.and_eq_true,Bool.not_eq_true'] at hc
   simp only [Eh] at h
   cases hb:Nat.beq g s with
   | true=>rw [hb] at h;cases h
   | false=>rw [hb] at h;simp only [has,hb,Bool.false_or];exact ih hc.2 h
section
variable {L:Nat→Option jh} {h:H} {a:Act} {xs:List Operand} {cap:List Value}
theorem YQ {E:Nat→Option jh} (hn:EZ N h a):∀ {pre:List (Nat×gQ)} {post:List Po} {gs:List Nat},vF N xs pre post gs→UQ (TL pre gs) L a→(∀ k g,toC pre gs k=some g→E k=L g)→FP pre gs=true→Oq pre E (TM fun k=>(xs.map a.eval ++ cap).getD k undef):=by
 intro pre
 induction pre with
 | nil=>intro post gs _ _ _ _;trivial
 | cons x r ih =>
  obtain ⟨k,q⟩:=x
  intro post gs hk hK hE hc
  cases post with
  | nil=>cases gs <;> exact hk.elim
  | cons p ps=>cases gs with
   | nil=>exact hk.elim
   | cons g gs =>
    obtain ⟨h1,h2⟩:=hk
    obtain ⟨⟨e,hL,hq⟩,hK⟩:=hK
    have hc0:=hc
    simp only [FP,Bool.and_eq_true,Bool.not_eq_true'] at hc
    refine ⟨⟨e,by rw [hE k g (by simp [toC,Nat.beq_refl])];exact hL,?_⟩,ih h2 hK (fun k' g' hk'=>hE k' g' ?_) hc.2⟩
    ·unfold TM
     rcases h1 with ⟨h5,hg,_⟩ | ⟨h5,y,hy,hyx⟩
     ·exact hg _ _ _ hq
     ·rw [h5,cond_false]
      have hv:a.eval y=a.gt g:=hyx h a hn
      have:(xs.map a.eval ++ cap).getD k undef=a.eval y:=by
       have hlt:=(List.getElem?_eq_some_iff.1 hy).1
       rw [List.getD_eq_getElem?_getD,List.getElem?_append_left (by simpa using hlt),List.getElem?_map,hy];rfl
      show q ((xs.map a.eval ++ cap).getD k undef) e
      rw [this,hv];exact hq
    ·have h3:=V9 hk'
     have:Nat.beq k k'=false:=by
      rw [Bool.eq_false_iff,Ne,jg];intro e;subst e;rw [h3.2] at hc;exact absurd hc.1.1.2 (by simp)
     simp only [toC,this,cond_false];exact hk'
theorem upd_of {E:Nat→Option jh} {L':Nat→Option jh} {a':Act} (hn:EZ N h a) {s:Nat} (ha:a'.gt s=a.gt s):∀ {pre:List (Nat×gQ)} {post:List Po} {gs:List Nat},vF N xs pre post gs→Gt pre post E (TM fun k=>(xs.map a.eval ++ cap).getD k undef) →
  FP pre gs=true→∀ k,Eh pre gs s=some k→L' s=E k →
  (∃ q,rY (IY gs post) s=some (some q)∧∃ e,L' s=some e∧q (a'.gt s) e)∨rY (IY gs post) s=some none∨(rY (IY gs post) s=none∧∃ q,(s,q) ∈ TL pre gs∧∃ e,L' s=some e∧q (a'.gt s) e):=by
 intro pre
 induction pre with
 | nil=>intro post gs _ _ _ k hk;cases gs <;> cases hk
 | cons x r ih =>
  obtain ⟨k0,q⟩:=x
  intro post gs hk hp hc k hof hL
  cases post with
  | nil=>cases gs <;> exact hk.elim
  | cons p ps=>cases gs with
   | nil=>exact hk.elim
   | cons g gs =>
    obtain ⟨h1,h2⟩:=hk
    simp only [FP,Bool.and_eq_true,Bool.not_eq_true'] at hc
    simp only [Eh] at hof
    cases hb:Nat.beq g s with
    | false =>
     rw [hb] at hof
     have hlk:rY (IY (g :: gs) (p :: ps)) s=rY (IY gs ps) s:=by
      cases p <;> simp [IY,rY,hb]
     rw [hlk]
     rcases ih h2 hp.2 hc.2 k hof hL with h | h | ⟨h3,q',h4,h5⟩
     ·exact .inl h
     ·exact .inr (.inl h)
     ·exact .inr (.inr ⟨h3,q',List.mem_cons_of_mem _ h4,h5⟩)
    | true =>
     rw [hb] at hof;cases hof
     rw [jg] at hb;subst hb
     have key:∀ q':gQ,(Nat.ble 5000 k0=true→Gh q')→(∃ e,E k0=some e∧q' (TM (fun k=>(xs.map a.eval ++ cap).getD k undef) k0) e)→∃ e,L' g=some e∧q' (a'.gt g) e:=by
      rintro q' hgh ⟨e,he,hq⟩
      refine ⟨e,by rw [hL];exact he,?_⟩
      unfold TM at hq
      rcases h1 with ⟨h5,_,_⟩ | ⟨h5,y,hy,hyx⟩
      ·exact hgh h5 _ _ _ hq
      ·rw [h5,cond_false] at hq
       have hv:a.eval y=a.gt g:=hyx h a hn
       have:(xs.map a.eval ++ cap).getD k0 undef=a.eval y:=by
        have hlt:=(List.getElem?_eq_some_iff.1 hy).1
        rw [List.getD_eq_getElem?_getD,List.getElem?_append_left (by simpa using hlt),List.getElem?_map,hy];rfl
       have hq:q' ((xs.map a.eval ++ cap).getD k0 undef) e:=hq
       rw [this,hv] at hq
       rw [ha];exact hq
     cases p with
     | gone=>exact .inr (.inl (by simp [IY,rY,Nat.beq_refl]))
     | to q' =>
      refine .inl ⟨q',by simp [IY,rY,Nat.beq_refl],key q' (fun h5=>?_) hp.1⟩
      rcases h1 with ⟨_,_,hg⟩ | ⟨h6,_⟩
      ·exact hg q' rfl
      ·rw [h6] at h5;cases h5
     | keep =>
      refine .inr (.inr ⟨(by simp only [IY];exact Gv hc.1.1.1),q,List.mem_cons_self,key q (fun h5=>?_) hp.1⟩)
      rcases h1 with ⟨_,hg,_⟩ | ⟨h6,_⟩
      ·exact hg
      ·rw [h6] at h5;cases h5
end
theorem Ou {U V:I5} {s:Nat}:rY (U ++ V) s=(match rY U s with | some e=>some e | none=>rY V s):=by
 induction U with
 | nil=>rfl
 | cons x r ih =>
  obtain ⟨k,e⟩:=x
  simp only [List.cons_append,rY]
  cases Nat.beq k s with
  | true=>rfl
  | false=>exact ih
theorem bZ {f:FuncId} {args C:List bD} {pre:List (Nat×gQ)} {post:List Po} {own:Option gQ} {res:bD} {xs:List Operand} {gs:List Nat} {K:List (Nat×gQ)} {U:I5}
    (hc:iH P f (args ++ C) pre post own res) (hE:J6 P N o xs f C) (hd:qw (res :: args)=true) (uH:(FP pre gs && !(match o.dst with | some d=>has gs d | none=>false))=true)
    (hargs:wW N args xs) (hkey:vF N xs pre post gs) (hK:TL pre gs=K) (hU:IY gs post ++ Rz own o.dst=U):fC P o N K res U:=by
  subst hK;subst hU
  intro κ B F L h a w hst hn hk hdn next Q _ hnext
  simp only [Bool.and_eq_true,Bool.not_eq_true'] at uH
  obtain ⟨hcc,hdg⟩:=uH
  obtain ⟨cap,hcap,hrun⟩:=hE h a w hn
  have hdp:=oz hd
  obtain ⟨hlen,hall⟩:=hargs.spec
  have hal:=hargs.spec.1
  unfold Oper.qB
  rw [hrun,Fa]
  have hst1:St B h (Sum.elim (fun k=>(toC pre gs k).bind L) (Sum.elim (fun s=>if (Eh pre gs s).isSome then none else L s) F)) w:=by
    refine hst.DI (fun k=>match k with | .inl k=>.inl ((toC pre gs k).getD 0) | .inr (.inl s)=>.inl s | .inr (.inr x)=>.inr x) ?_ ?_
    · intro k e he
      cases k with
      | inl k =>
        simp only [Sum.elim_inl] at he
        cases ht:toC pre gs k with
        | none=>rw [ht] at he;cases he
        | some g=>rw [ht] at he;simpa [ht] using he
      | inr k=>cases k with
        | inl s =>
          simp only [Sum.elim_inr,Sum.elim_inl] at he
          split at he
          · cases he
          · exact he
        | inr x=>exact he
    · intro k k' e e' hk1 hk2 hne
      have key:∀ k e,(toC pre gs k).bind L=some e→∃ g,toC pre gs k=some g∧Eh pre gs g=some k:=by
        intro k e he
        cases ht:toC pre gs k with
        | none=>rw [ht] at he;cases he
        | some g=>exact ⟨g,rfl,YP hcc ht⟩
      have keyS:∀ s e,(if (Eh pre gs s).isSome then none else L s)=some e→Eh pre gs s=none:=by
        intro s e he
        split at he
        · cases he
        · rename_i hh;simpa using hh
      cases k with
      | inl k =>
        obtain ⟨g,hg,hg'⟩:=key k e hk1
        cases k' with
        | inl k' =>
          obtain ⟨g2,hg2,Vg⟩:=key k' e' hk2
          intro he
          simp only [hg,hg2,Option.getD_some] at he
          have:=Sum.inl.inj he
          rw [this,Vg] at hg';cases hg';exact hne rfl
        | inr k'=>cases k' with
          | inl s =>
            intro he
            simp only [hg,Option.getD_some] at he
            have:=Sum.inl.inj he
            have h2:=keyS s e' hk2
            rw [← this,hg'] at h2;cases h2
          | inr x=>intro he;cases he
      | inr k=>cases k with
        | inl s =>
          have h2:=keyS s e hk1
          cases k' with
          | inl k' =>
            obtain ⟨g2,hg2,Vg⟩:=key k' e' hk2
            intro he
            simp only [hg2,Option.getD_some] at he
            have:=Sum.inl.inj he
            rw [this,Vg] at h2;cases h2
          | inr k'=>cases k' with
            | inl s'=>intro he;exact hne (by rw [Sum.inl.inj he])
            | inr x=>intro he;cases he
        | inr x=>cases k' with
          | inl k'=>intro he;cases he
          | inr k'=>cases k' with
            | inl s'=>intro he;cases he
            | inr x'=>intro he;exact hne (by rw [Sum.inr.inj he])
  refine (hc _ B _ h w (xs.map a.eval ++ cap) _ hst1 (by rw [List.length_append,List.length_append,List.length_map,hal,hcap.1]) (YQ hn hkey hk (fun k g hg=>by rw [hg];rfl) hcc) ?_).mono ?_
  · intro j g u hg hu
    by_cases hj:j<args.length
    · rw [List.getElem?_append_left hj] at hg
      rw [List.getElem?_append_left (by rw [List.length_map];omega),List.getElem?_map] at hu
      cases hx:xs[j]? with
      | none=>rw [hx] at hu;cases hu
      | some x =>
        rw [hx] at hu;cases hu
        have:=hall j g x hg hx h a hn
        unfold bD.dv at this
        rw [hdp g (List.mem_cons_of_mem _ (List.mem_of_getElem? hg))] at this
        exact this
    · rw [List.getElem?_append_right (by omega)] at hg
      rw [List.getElem?_append_right (by rw [List.length_map];omega),List.length_map,← hal] at hu
      exact hcap.2 _ g u hg hu
  · rintro e w' ⟨v,h',E',rfl,hl,hst',hpost,hown,hp⟩
    refine hnext v h' w' (fun s=>if o.dst=some s then (if own.isSome then E' 9999 else none) else match Eh pre gs s with | some k=>E' k | none=>L s) hl ?_ ?_ ?_
    · unfold bD.dv
      rw [hdp res List.mem_cons_self]
      exact hp
    · refine hst'.DI (fun k => match k with | .inl s => (if o.dst = some s then .inl 9999 else match Eh pre gs s with | some k => .inl k | none => .inr (.inl s)) | .inr x => .inr (.inr x)) ?_ ?_
      · intro k e he
        cases k with
        | inr x=>exact he
        | inl s =>
          simp only [Sum.elim_inl] at he
          simp only []
          split at he
          · rename_i h1
            rw [if_pos h1]
            split at he
            · exact he
            · cases he
          · rename_i h1
            rw [if_neg h1]
            cases ho:Eh pre gs s with
            | some k=>rw [ho] at he;exact he
            | none=>rw [ho] at he;simpa [ho] using he
      · intro k k' e e' hk1 hk2 hne
        have k9:∀ s,Eh pre gs s≠some 9999:=by
          intro s he
          have:=(RD he).2
          rw [Xn hcc] at this;cases this
        cases k with
        | inr x=>cases k' with
          | inr x'=>intro he;exact hne (by rw [Sum.inr.inj (Sum.inr.inj he)])
          | inl s =>
            intro he
            simp only [] at he
            split at he
            · cases he
            · cases ho:Eh pre gs s <;> rw [ho] at he <;> cases he
        | inl s=>cases k' with
          | inr x =>
            intro he
            simp only [] at he
            split at he
            · cases he
            · cases ho:Eh pre gs s <;> rw [ho] at he <;> cases he
          | inl s' =>
            have hss:s≠s':=fun x=>hne (by rw [x])
            intro he
            simp only [] at he
            by_cases h1:o.dst=some s
            · by_cases h2 : o.dst = some s'
              · rw [h1] at h2;exact hss (Option.some.inj h2)
              · rw [if_pos h1,if_neg h2] at he
                cases ho:Eh pre gs s' with
                | none=>rw [ho] at he;cases he
                | some k=>rw [ho] at he;exact k9 s' (by rw [ho];exact congrArg some (Sum.inl.inj he).symm)
            · by_cases h2 : o.dst = some s'
              · rw [if_neg h1,if_pos h2] at he
                cases ho:Eh pre gs s with
                | none=>rw [ho] at he;cases he
                | some k=>rw [ho] at he;exact k9 s (by rw [ho];exact congrArg some (Sum.inl.inj he))
              · rw [if_neg h1,if_neg h2] at he
                cases ho:Eh pre gs s with
                | none=>cases ho':Eh pre gs s' with
                  | none=>rw [ho,ho'] at he;exact hss (Sum.inl.inj (Sum.inr.inj he))
                  | some k'=>rw [ho,ho'] at he;cases he
                | some k=>cases ho':Eh pre gs s' with
                  | none=>rw [ho,ho'] at he;cases he
                  | some k' =>
                    rw [ho,ho'] at he
                    have:=Sum.inl.inj he
                    subst this
                    have h1:=RF hcc ho
                    have h2:=RF hcc ho'
                    rw [h1] at h2;exact hss (Option.some.inj h2)
    · intro s
      unfold full
      rw [Ou,Ou]
      by_cases hds:o.dst=some s
      · have hg : has gs s = false := by rw [hds] at hdg; exact hdg
        rw [Gv hg]
        simp only []
        cases own with
        | none =>
          simp [Rz,rY,hds,Nat.beq_refl]
        | some q =>
          obtain ⟨e,he,hq⟩:=hown
          simp only [Rz,hds,rY,Nat.beq_refl,cond_true,if_pos,Option.isSome_some]
          exact ⟨e,he,by rw [iQ (hdn s hds)];exact hq⟩
      · have ha:(a.put o.dst v).gt s=a.gt s:=zA hds
        have hrest:∀ e,rY (Rz own o.dst) s=some e→False:=by
          intro e he
          cases own with
          | none=>cases he
          | some q=>cases hd':o.dst with
            | none=>rw [hd'] at he;cases he
            | some d =>
              rw [hd'] at he
              simp only [Rz,rY] at he
              cases hb:Nat.beq d s with
              | true=>rw [jg] at hb;subst hb;exact hds hd'
              | false=>rw [hb] at he;cases he
        cases hof:Eh pre gs s with
        | some k =>
          have hfin:∀ e,rY (Rz own o.dst) s=some e→False:=hrest
          have h0:rY (full [] o.dst) s=none:=by
            unfold full
            cases hd':o.dst with
            | none=>rfl
            | some d =>
              simp only [List.nil_append,rY]
              cases hb:Nat.beq d s with
              | true=>rw [jg] at hb;subst hb;exact absurd hd' hds
              | false=>rfl
          unfold full at h0
          rw [List.nil_append] at h0
          rcases upd_of (E:=E') (L':=fun s=>if o.dst=some s then (if own.isSome then E' 9999 else none) else match Eh pre gs s with | some k=>E' k | none=>L s) hn ha hkey hpost hcc k hof (by simp only [if_neg hds,hof]) with ⟨q,h1,h2⟩ | h1 | ⟨h1,h2⟩
          · rw [h1];exact h2
          · rw [h1];trivial
          · rw [h1]
            simp only []
            cases hr:rY (Rz own o.dst) s with
            | some e=>exact (hfin e hr).elim
            | none =>
              simp only []
              rw [h0]
              exact .inr h2
        | none =>
          rw [Gv (has_of hcc hof)]
          simp only []
          cases hr:rY (Rz own o.dst) s with
          | some e=>exact (hrest e hr).elim
          | none =>
            simp only []
            have:rY (full [] o.dst) s=none:=by
              unfold full
              cases hd':o.dst with
              | none=>rfl
              | some d =>
                simp only [List.nil_append,rY]
                cases hb:Nat.beq d s with
                | true=>rw [jg] at hb;subst hb;exact absurd hd' hds
                | false=>rfl
            unfold full at this
            rw [List.nil_append] at this
            rw [this]
            exact .inl (by simp only [if_neg hds,hof])
end Go.KB
namespace Go.KB
variable {P:Program} {o:Oper} {N:List (Nat×bD)} {α β:Type}
def J9 {S κ:Type} (f:S→κ→Option S):List κ→S→Option S
 | [],s=>some s
 | x :: r,s=>(f s x).bind (J9 f r)
open Classical in
noncomputable def Hy {κ R:Type} (l:List κ) (F:List κ→Option R):Option R :=
 if h:∃ r,∀ π,π.Perm l→F π=some r then some h.choose else none
theorem BH {κ R:Type} {l:List κ} {F:List κ→Option R} {r:R} (h:Hy l F=some r):∀ π,π.Perm l→F π=some r:=by
 unfold Hy at h
 split at h
 ·rename_i hx;cases h;exact hx.choose_spec
 ·cases h
theorem Xo {κ R:Type} {l:List κ} {F:List κ→Option R} {r:R} (h:∀ π,π.Perm l→F π=some r):Hy l F=some r:=by
 unfold Hy
 have hx:∃ r,∀ π,π.Perm l→F π=some r:=⟨r,h⟩
 rw [dif_pos hx]
 have h1:=hx.choose_spec l (List.Perm.refl l)
 rw [h l (List.Perm.refl l)] at h1
 exact h1.symm
theorem Fq {S κ R:Type} {f:S→κ→Option S} {K:S→Option R} {s:S} {rem r1 r2:List κ} {p:κ} {r:R} (H:∀ π,π.Perm rem→(J9 f π s).bind K=some r) (he:rem=r1 ++ p :: r2) :
  ∃ s',f s p=some s'∧∀ π,π.Perm (r1 ++ r2)→(J9 f π s').bind K=some r:=by
 have key:∀ π,π.Perm (r1 ++ r2)→(((f s p).bind (J9 f π)).bind K=some r):=fun π hp =>
  H (p :: π) (by rw [he];exact (List.Perm.cons p hp).trans List.perm_middle.symm)
 cases hs:f s p with
 | none=>have:=key _ (List.Perm.refl _);rw [hs] at this;cases this
 | some s'=>exact ⟨s',rfl,fun π hp=>by have:=key π hp;rwa [hs] at this⟩
def EJ (bm bi:Nat) (f:α→Value) (rv:Rep β) (l rem:List (α×β)) (cur:Option (α×β)):jh where
 claims:=[(bm,0),(bi,0)]
 ok:=fun h m=>∃ es clock seen,m bm=some (.map es clock)∧m bi=some (.mapIter (some bm) clock seen clock)∧bm≠bi∧zi f rv h es.toList l∧y8 es.toList clock∧zi f rv h (leftOf es seen).toList rem ∧
  ∀ p,cur=some p→∃ (e:MapEntry) (seen':Array Nat),seen=seen'.push e.born∧e ∈ es.toList∧e.key=f p.1∧rv.val h e.val p.2
 mono:=by
  rintro h h' m hl ⟨es,c,s,h1,h2,h3,h4,h5,h6,h7⟩
  exact ⟨es,c,s,h1,h2,h3,h4.mono hl,h5,h6.mono hl,fun p hp=>let ⟨e,s',a,b,c,d⟩:=h7 p hp;⟨e,s',a,b,c,rv.NH hl d⟩⟩
 frame:=fun hm ⟨es,c,s,h1,h2,h3⟩=>⟨es,c,s,by rw [hm (bm,0) (by simp)];exact h1,by rw [hm (bi,0) (by simp)];exact h2,h3⟩
def LY (sm:Value) (f:α→Value) (rv:Rep β) (l rem:List (α×β)) (cur:Option (α×β)):gQ:=fun v e=>∃ bm bi,sm = .map (some bm)∧v = .pointer (some ⟨bi,0,none⟩)∧e=EJ bm bi f rv l rem cur
theorem Vh (es:Array MapEntry):leftOf es #[]=es:=by
 unfold leftOf
 exact Array.filter_eq_self.2 (fun x _=>by simp)
theorem zi.split {f:α→Value} {rv:Rep β} {h:H}:∀ {es:List MapEntry} {l:List (α×β)} {e:MapEntry},zi f rv h es l→e ∈ es→∃ e1 e2 r1 p r2,es=e1 ++ e :: e2∧l=r1 ++ p :: r2∧e.key=f p.1∧rv.val h e.val p.2∧zi f rv h (e1 ++ e2) (r1 ++ r2)
 | [],_,_,_,he=>by cases he
 | x :: es,[],_,hr,_=>hr.elim
 | x :: es,p :: l,e,⟨hx,hr⟩,he=>by
  rcases List.mem_cons.1 he with rfl | he
  ·exact ⟨[],es,[],p,l,rfl,rfl,hx.1,hx.2,hr⟩
  ·obtain ⟨e1,e2,r1,p',r2,h1,h2,h3,h4,h5⟩:=zi.split hr he
   exact ⟨x :: e1,e2,p :: r1,p',r2,by rw [h1];rfl,by rw [h2];rfl,h3,h4,hx,h5⟩
theorem Xp {es:Array MapEntry} {seen:Array Nat} {e:MapEntry} {e1 e2:List MapEntry} (hn:(es.toList.map (·.born)).Nodup) (hl:(leftOf es seen).toList=e1 ++ e :: e2):(leftOf es (seen.push e.born)).toList=e1 ++ e2:=by
 have hnl:((leftOf es seen).toList.map (·.born)).Nodup:=by
  unfold leftOf
  rw [Array.toList_filter]
  exact (List.Sublist.map _ List.filter_sublist).nodup hn
 have h1:(leftOf es (seen.push e.born)).toList=(leftOf es seen).toList.filter (fun x=>!(x.born == e.born)):=by
  unfold leftOf
  rw [Array.toList_filter,Array.toList_filter,List.filter_filter]
  congr 1
  funext x
  rw [Array.contains_push,Bool.not_or,Bool.and_comm]
 rw [hl] at hnl
 rw [h1,hl,List.filter_append,List.filter_cons]
 have hne:∀ x,x ∈ e1∨x ∈ e2→x.born≠e.born:=by
  intro x hx heq
  rw [List.map_append,List.map_cons,List.nodup_append] at hnl
  obtain ⟨_,h3,h4⟩:=hnl
  rcases hx with hx | hx
  ·exact h4 x.born (List.mem_map.2 ⟨x,hx,rfl⟩) e.born (by simp) heq
  ·exact (List.nodup_cons.1 h3).1 (List.mem_map.2 ⟨x,hx,heq⟩)
 have f1:e1.filter (fun x=>!(x.born == e.born))=e1:=List.filter_eq_self.2 (fun x hx=>by simpa using hne x (.inl hx))
 have f2:e2.filter (fun x=>!(x.born == e.born))=e2:=List.filter_eq_self.2 (fun x hx=>by simpa using hne x (.inr hx))
 rw [f1,f2]
 simp
theorem G9 {T K E:TypeId} {f:α→Value} {rv:Rep β} {g d:Nat} {sm:Value} {x:Operand} {l:List (α×β)} (hT:P.underlying T=some (.map K E)) (hgd:Nat.beq g d=false) (hd:o.dst=some d) (ho:o.op = .range T x) (hx:dD N x (fJ sm)) :
    fC P o N [(g,dm (bI f rv l) sm)] bD.qy [(g,none),(d,some (LY sm f rv l l none))]:=by
  intro κ B F L h a w hst hn hk hdn next Q hnext _
  obtain ⟨e,hL,b,hv,rfl⟩:=hk.1
  have hL:L g=some (qQ b f rv l):=hL
  have hx':a.eval x = .map (some b):=(hx h a hn:a.eval x=sm).trans hv
  have hne:g≠d:=fun x=>by rw [jg.2 x] at hgd;cases hgd
  obtain ⟨es,clock,hb,hr,hB⟩:=Ns hst hL
  unfold Oper.qB
  have:(execOp a.eval o).run P w = .ok (.value (.pointer (some ⟨w.heap.size,0,none⟩))) (w.alloc (.mapIter (some b) clock #[] clock)):=by
    simp only [execOp,ho,hx',Sem.run_bind,run_range_map w T K E b es clock hT hb,Result.andThen_ok,Sem.run_pure]
  rw [this]
  obtain ⟨hcl,_⟩:=hst.own (k:=Sum.inl g) hL
  have hlt:=(hcl (b,0) (by simp [qQ])).2.1
  have hno:=(hcl (b,0) (by simp [qQ])).2.2
  have hm:=hst.mv g d
  have hmd:mv L g d d=some (qQ b f rv l):=by simp [mv,hL]
  refine hnext _ h _ (set1 (mv L g d) d (EJ b w.heap.size f rv l l none)) (nO.refl h) trivial ?_ ?_
  · refine hm.step (hnf := hm.VJ) (Sum.inl d) (fun i => i = w.heap.size) (fun i hi hlt' => absurd hlt' (by omega)) (by simp) rfl rfl rfl (fun i hi _ => Dj w _ hi) (nO.refl h) (fun _ _ _ _ => rfl) ?_ um ?_
    · rintro i o' u (rfl | hi) hu
      · rw [hst.fresh (Nat.le_refl _)] at hu;cases hu
      · rw [hst.fresh hi] at hu;cases hu
    · intro e' he
      rw [uo he]
      refine ⟨fun c hc=>?_,es,clock,#[],?_,heap_alloc_new w _,by omega,hr,hB,by rw [Vh];exact hr,fun p hp=>by cases hp⟩
      · simp only [EJ,List.mem_cons,List.not_mem_nil,or_false] at hc
        rcases hc with rfl | rfl
        · exact ⟨.inr ⟨_,hmd,(b,0),by simp [qQ],rfl⟩,by simp;omega,fun o' _=>hno o' (Nat.zero_le _)⟩
        · exact ⟨.inl (Nat.le_refl _),by simp,fun o' _=>hst.fresh (Nat.le_refl _) o'⟩
      · exact (Dj w _ hlt).trans hb
  · rw [hd]
    intro k
    by_cases hkd:k=d
    · subst hkd
      have h1:rY (full [(g,none),(k,some (LY sm f rv l l none))] (some k)) k=some (some (LY sm f rv l l none)):=by
        simp [full,rY,hgd,Nat.beq_refl]
      rw [h1]
      exact ⟨_,qR,b,w.heap.size,hv,by rw [iQ (hdn k hd)],rfl⟩
    · by_cases hkg : k = g
      · subst hkg
        have h1:rY (full [(k,none),(d,some (LY sm f rv l l none))] (some d)) k=some none:=by simp [full,rY,Nat.beq_refl]
        rw [h1];trivial
      · have n1 : Nat.beq g k = false := by rw [Bool.eq_false_iff, Ne, jg]; exact fun x => hkg x.symm
        have n2:Nat.beq d k=false:=by rw [Bool.eq_false_iff,Ne,jg];exact fun x=>hkd x.symm
        have h1:rY (full [(g,none),(d,some (LY sm f rv l l none))] (some d)) k=none:=by simp [full,rY,n1,n2]
        rw [h1]
        simp [set1,mv,hkd,hkg]

def Fj (sm si:Value) (f:α→Value) (rv:Rep β) (l rem:List (α×β)):gQ:=fun v e=>(v = .tuple #[.bool false]∧rem=[]∧LY sm f rv l [] none si e) ∨
 ∃ k x r1 p r2,v = .tuple #[.bool true,k,x]∧rem=r1 ++ p :: r2∧LY sm f rv l (r1 ++ r2) (some p) si e
def NP (sm si:Value) (f:α→Value) (rv:Rep β) (l rem:List (α×β)):gQ:=fun v e=>(v = .bool false∧rem=[]∧LY sm f rv l [] none si e) ∨
 ∃ r1 p r2,v = .bool true∧rem=r1 ++ p :: r2∧LY sm f rv l (r1 ++ r2) (some p) si e
theorem it_at {κ:Type} {B:Base} {h:H} {L:Nat→Option jh} {F:κ→Option jh} {w:World} (hst:St B h (Sum.elim L F) w) {s bm bi:Nat} {f:α→Value} {rv:Rep β} {l rem:List (α×β)} {cur:Option (α×β)} (hk:L s=some (EJ bm bi f rv l rem cur)) :
  ∃ es clock seen,w.heap[bm]? = some (.map es clock)∧w.heap[bi]? = some (.mapIter (some bm) clock seen clock)∧bm≠bi∧zi f rv h es.toList l∧y8 es.toList clock∧zi f rv h (leftOf es seen).toList rem ∧
  ∀ p,cur=some p→∃ (e:MapEntry) (seen':Array Nat),seen=seen'.push e.born∧e ∈ es.toList∧e.key=f p.1∧rv.val h e.val p.2:=(hst.own (k:=Sum.inl s) hk).2
theorem TN {w:World} {b:Nat} {o o':Obj} (hb:w.heap[b]? = some o):(ChangeMaps.setBlock w b o').heap[b]? = some o':=by
 have:=(Array.getElem?_eq_some_iff.1 hb).1
 simp [ChangeMaps.setBlock,this]
theorem Md {w:World} {b i:Nat} {o':Obj} (hi:i≠b):(ChangeMaps.setBlock w b o').heap[i]? = w.heap[i]?:=by
 simp [ChangeMaps.setBlock,Array.getElem?_setIfInBounds_ne (Ne.symm hi)]
theorem JL {f:α→Value} {rv:Rep β} {g d:Nat} {sm si:Value} {x:Operand} {l rem:List (α×β)} {cur:Option (α×β)} (hgd:Nat.beq g d=false) (hd:o.dst=some d) (ho:o.op = .next x false) (hx:dD N x (fJ si)) :
    fC P o N [(g,dm (LY sm f rv l rem cur) si)] bD.qy [(g,none),(d,some (Fj sm si f rv l rem))]:=by
  intro κ B F L h a w hst hn hk hdn next Q hnext _
  obtain ⟨e,hL,bm,bi,hsm,hsi,rfl⟩:=hk.1
  have hL:L g=some (EJ bm bi f rv l rem cur):=hL
  have hx':a.eval x = .pointer (some ⟨bi,0,none⟩):=(hx h a hn:a.eval x=si).trans hsi
  have hne:g≠d:=fun x=>by rw [jg.2 x] at hgd;cases hgd
  obtain ⟨es,clock,seen,hb,hi,hbi,hr,hB,hleft,_⟩:=it_at hst hL
  obtain ⟨hcl,_⟩:=hst.own (k:=Sum.inl g) hL
  have hm:=hst.mv g d
  have hmd:mv L g d d=some (EJ bm bi f rv l rem cur):=by simp [mv,hL]
  have ZM:∀ (E:jh) (v:Value),Fj sm si f rv l rem v E→GZ L (set1 (mv L g d) d E) (full [(g,none),(d,some (Fj sm si f rv l rem))] o.dst) (a.put o.dst v):=by
    intro E v hq
    rw [hd]
    intro k
    by_cases hkd:k=d
    · subst hkd
      have h1:rY (full [(g,none),(k,some (Fj sm si f rv l rem))] (some k)) k=some (some (Fj sm si f rv l rem)):=by simp [full,rY,hgd,Nat.beq_refl]
      rw [h1]
      exact ⟨_,qR,by rw [iQ (hdn k hd)];exact hq⟩
    · by_cases hkg : k = g
      · subst hkg
        have h1:rY (full [(k,none),(d,some (Fj sm si f rv l rem))] (some d)) k=some none:=by simp [full,rY,Nat.beq_refl]
        rw [h1];trivial
      · have n1 : Nat.beq g k = false := by rw [Bool.eq_false_iff, Ne, jg]; exact fun x => hkg x.symm
        have n2:Nat.beq d k=false:=by rw [Bool.eq_false_iff,Ne,jg];exact fun x=>hkd x.symm
        have h1:rY (full [(g,none),(d,some (Fj sm si f rv l rem))] (some d)) k=none:=by simp [full,rY,n1,n2]
        rw [h1]
        simp [set1,mv,hkd,hkg]
  unfold Oper.qB
  rcases run_next_at (P:=P) w o.type bi bm clock clock seen es clock hi hb hB.2 (Nat.le_refl _) with ⟨h0,hrun⟩ | ⟨e,he,w1,hw1,hrun⟩
  · have:(execOp a.eval o).run P w = .ok (.value (.tuple #[.bool false])) w:=by
      simp only [execOp,ho,hx',Sem.run_bind,hrun,Result.andThen_ok,Sem.run_pure]
    rw [this]
    have hnil:(leftOf es seen).toList=[]:=by
      have:(leftOf es seen).toList.length=0:=by simpa using h0
      exact List.eq_nil_of_length_eq_zero this
    have hrem:rem=[]:=by
      rw [hnil] at hleft
      cases rem with
      | nil=>rfl
      | cons _ _=>exact hleft.elim
    subst hrem
    refine hnext _ h _ (set1 (mv L g d) d (EJ bm bi f rv l [] none)) (nO.refl h) trivial ?_ (ZM _ _ (.inl ⟨rfl,rfl,bm,bi,hsm,hsi,rfl⟩))
    exact hm.swap hmd (fun c hc=>⟨c,hc,rfl,Nat.le_refl _⟩) ⟨es,clock,seen,hb,hi,hbi,hr,hB,hleft,fun p hp=>by cases hp⟩
  · have:(execOp a.eval o).run P w = .ok (.value (.tuple #[.bool true,e.key,e.val])) (ChangeMaps.setBlock w1 bi (.mapIter (some bm) clock (seen.push e.born) clock)):=by
      simp only [execOp,ho,hx',Sem.run_bind,hrun,Result.andThen_ok,Sem.run_pure]
    rw [this]
    have hall:w1.heap=w.heap∧w1.os=w.os∧w1.tape=w.tape∧w1.output=w.output:=by rcases hw1 with rfl | rfl <;> exact ⟨rfl,rfl,rfl,rfl⟩
    have hdrw:w.drawn≤w1.drawn:=by rcases hw1 with rfl | rfl;exact Nat.le_refl _;exact Nat.le_succ _
    obtain ⟨e1,e2,r1,p,r2,hl,hrem,hkey,hval,hrest⟩:=hleft.split he
    have hmem:e ∈ es.toList:=by
      unfold leftOf at he
      rw [Array.toList_filter] at he
      exact (List.mem_filter.1 he).1
    refine hnext _ h _ (set1 (mv L g d) d (EJ bm bi f rv l (r1 ++ r2) (some p))) (nO.refl h) trivial ?_ (ZM _ _ (.inr ⟨_,_,r1,p,r2,rfl,hrem,bm,bi,hsm,hsi,rfl⟩))
    have hno:=fun o'=>(hcl (bi,0) (by simp [EJ])).2.2 o' (Nat.zero_le _)
    refine hm.step (hnf:=hm.KT (k:=Sum.inl d) hmd (by simp [EJ])) (hdr:=fun _=>hdrw) (Sum.inl d) (fun i=>i=bi) (fun i hi _=>⟨_,hmd,(bi,0),by simp [EJ],hi.symm⟩) (by simp [ChangeMaps.setBlock,hall.1]) hall.2.1 hall.2.2.1 hall.2.2.2 (fun i _ hi=>(Md hi).trans (by rw [hall.1])) (nO.refl h) (fun _ _ _ _=>rfl) ?_ um ?_
    · rintro i o' u (rfl | hi') hu
      · rw [hno o'] at hu;cases hu
      · rw [hst.fresh hi'] at hu;cases hu
    · intro e' he'
      rw [uo he']
      refine ⟨fun c hc=>?_,es,clock,seen.push e.born,(Md hbi).trans (by rw [hall.1];exact hb),TN (o:=.mapIter (some bm) clock seen clock) (by rw [hall.1];exact hi),hbi,hr,hB,by rw [Xp hB.1 hl];exact hrest,fun p' hp'=>?_⟩
      · obtain ⟨_,h2,h3⟩:=hcl c hc
        exact ⟨.inr ⟨_,hmd,c,hc,rfl⟩,by simpa [ChangeMaps.setBlock,hall.1] using h2,h3⟩
      · cases hp'
        exact ⟨e,seen,rfl,hmem,hkey,hval⟩
theorem DW {f:α→Value} {rv:Rep β} {g d:Nat} {sm si:Value} {l rem:List (α×β)} (hgd:Nat.beq g d=false) (hd:o.dst=some d) (ho:o.op = .extract (.tmp g) 0) :
  fC P o N [(g,Fj sm si f rv l rem)] bD.qy [(g,none),(d,some (NP sm si f rv l rem))]:=by
 intro κ B F L h a w hst hn hk hdn next Q hnext _
 obtain ⟨e,hL,hq⟩:=hk.1
 have hL:L g=some e:=hL
 have hne:g≠d:=fun x=>by rw [jg.2 x] at hgd;cases hgd
 unfold Oper.qB
 rcases hq with ⟨hv,h1,h2⟩ | ⟨k,x,r1,p,r2,hv,h1,h2⟩
 ·have hv':a.eval (.tmp g) = .tuple #[.bool false]:=hv
  have:(execOp a.eval o).run P w = .ok (.value (.bool false)) w:=by simp [execOp,ho,hv',Instr.extract]
  rw [this]
  refine hnext _ h w _ (nO.refl h) trivial (hst.mv g d) ?_
  rw [hd]
  exact G5 hne hL (by rw [iQ (hdn d hd)];exact .inl ⟨rfl,h1,h2⟩)
 ·have hv':a.eval (.tmp g) = .tuple #[.bool true,k,x]:=hv
  have:(execOp a.eval o).run P w = .ok (.value (.bool true)) w:=by simp [execOp,ho,hv',Instr.extract]
  rw [this]
  refine hnext _ h w _ (nO.refl h) trivial (hst.mv g d) ?_
  rw [hd]
  exact G5 hne hL (by rw [iQ (hdn d hd)];exact .inr ⟨r1,p,r2,rfl,h1,h2⟩)
theorem Hf [DecidableEq α] {K:TypeId} {rk:Rep α} {f:α→Value} {rv:Rep β} {g:Nat} {sm si:Value} {x:Operand} {l rem:List (α×β)} {p:α×β} (hf:zh P K rk f) (ho:o.op = .entry x) (hx:dD N x (fJ si)) :
  fC P o N [(g,dm (LY sm f rv l rem (some p)) si)] (Cc (fV rk p.1) (fV rv p.2)) []:=by
 intro κ B F L h a w hst hn hk hdn next Q hnext _
 obtain ⟨e,hL,bm,bi,hsm,hsi,rfl⟩:=hk.1
 have hL:L g=some (EJ bm bi f rv l rem (some p)):=hL
 have hx':a.eval x = .pointer (some ⟨bi,0,none⟩):=(hx h a hn:a.eval x=si).trans hsi
 obtain ⟨es,clock,seen,hb,hi,hbi,hr,hB,hleft,hc⟩:=it_at hst hL
 obtain ⟨e,seen',hs,he,hkey,hval⟩:=hc p rfl
 rw [hs] at hi
 have hrun:=run_entry_at (P:=P) w bi bm clock seen' es clock e hi hb he hB.1
 unfold Oper.qB
 have:(execOp a.eval o).run P w = .ok (.value (.tuple #[e.key,e.val])) w:=by
  simp only [execOp,ho,hx',Sem.run_bind,hrun,Result.andThen_ok,Sem.run_pure]
 rw [this]
 exact hnext _ h w L (nO.refl h) ⟨_,_,rfl,by rw [hkey];exact hf.val h p.1,hval⟩ hst nY
section
variable {ρ:Option Nat} {κ:Type} {B:Base} {h0:H} {Γ:Ctx} {Λ:Own} {F:κ→Option jh} {n:Nat} {a:Act} {w:World} {Q:Exit→Act→World→Prop} {sm si:Value} {f:α→Value} {rv:Rep β} {l rem:List (α×β)}
theorem At.He {q:gQ} (s g:Nat) (hsg:Nat.beq s g=false) (hAt:At B h0 Γ Λ F n a w) (hs:Λ s=some q) :
  ∃ sv,At B h0 (fun k=>bif Nat.beq s k then fJ sv else Γ k) (fun k=>bif Nat.beq g k then some (dm q sv) else bif Nat.beq s k then none else Λ k) F n a w:=by
 obtain ⟨h,L,hle,hst,rP,mV,hsz,hdf⟩:=hAt
 obtain ⟨e,hL,hq⟩:=rP s q hs
 have hne:s≠g:=fun x=>by rw [jg.2 x] at hsg;cases hsg
 refine ⟨a.gt s,h,mv L s g,hle,hst.mv s g,?_,?_,hsz,hdf⟩
 ·intro k q' hq'
  cases hk:Nat.beq g k with
  | true=>simp only [hk,cond_true] at hq';cases hq';rw [jg] at hk;subst hk;exact ⟨e,by simp [mv,hL],hq⟩
  | false =>
   simp only [hk,cond_false] at hq'
   cases hk2:Nat.beq s k with
   | true=>simp only [hk2,cond_true] at hq';cases hq'
   | false =>
    simp only [hk2,cond_false] at hq'
    have n1:k≠g:=fun x=>by rw [jg.2 x.symm] at hk;cases hk
    have n2:k≠s:=fun x=>by rw [jg.2 x.symm] at hk2;cases hk2
    obtain ⟨e',h1,h2⟩:=rP k q' hq'
    exact ⟨e',by simp [mv,n1,n2,h1],h2⟩
 ·intro k
  cases hk:Nat.beq s k with
  | true=>simp only [hk,cond_true];rw [jg] at hk;subst hk;exact rfl
  | false=>simp only [hk,cond_false];exact mV k
theorem At.YK {q:gQ} (g:Nat) {q':gQ} (hAt:At B h0 Γ Λ F n a w) (hs:Λ g=some q)
  (hq:∀ v e,q v e→∃ e',q' v e'∧(∀ c ∈ e'.claims,∃ c0 ∈ e.claims,c0.1=c.1∧c0.2≤c.2)∧∀ h m,e.ok h m→e'.ok h m):At B h0 Γ (fun k=>bif Nat.beq g k then some q' else Λ k) F n a w:=by
 obtain ⟨h,L,hle,hst,rP,mV,hsz,hdf⟩:=hAt
 obtain ⟨e,hL,hq1⟩:=rP g q hs
 obtain ⟨e',hq2,hcl,hok⟩:=hq _ _ hq1
 refine ⟨h,_,hle,hst.swap hL hcl (hok _ _ (hst.own (k:=Sum.inl g) hL).2),?_,mV,hsz,hdf⟩
 intro k q1 h1
 cases hk:Nat.beq g k with
 | true=>simp only [hk,cond_true] at h1;cases h1;rw [jg] at hk;subst hk;exact ⟨e',qR,hq2⟩
 | false =>
  simp only [hk,cond_false] at h1
  obtain ⟨e1,h2,h3⟩:=rP k q1 h1
  have n1:k≠g:=fun x=>by rw [jg.2 x.symm] at hk;cases hk
  exact ⟨e1,by simp [set1,n1,h2],h3⟩
theorem At.I8 {cur:Option (α×β)} (g:Nat) (hAt:At B h0 Γ Λ F n a w) (hs:Λ g=some (dm (LY sm f rv l rem cur) si)):At B h0 Γ (fun k=>bif Nat.beq g k then some (dm (LY sm f rv l rem none) si) else Λ k) F n a w :=
 hAt.YK g hs fun v e ⟨bm,bi,h1,h2,he⟩=>⟨EJ bm bi f rv l rem none,⟨bm,bi,h1,h2,rfl⟩,by subst he;exact fun c hc=>⟨c,hc,rfl,Nat.le_refl _⟩,by
  subst he
  rintro h m ⟨es,c,s,k1,k2,k3,k4,k5,k6,_⟩
  exact ⟨es,c,s,k1,k2,k3,k4,k5,k6,fun p hp=>by cases hp⟩⟩
theorem At.JO {cur:Option (α×β)} (g:Nat) (hAt:At B h0 Γ Λ F n a w) (hs:Λ g=some (dm (LY sm f rv l rem cur) si)):At B h0 Γ (fun k=>bif Nat.beq g k then some (dm (bI f rv l) sm) else Λ k) F n a w :=
 hAt.YK g hs fun v e ⟨bm,bi,h1,h2,he⟩=>⟨qQ bm f rv l,⟨bm,h1,rfl⟩,by subst he;intro c hc;exact ⟨c,by simp only [qQ,List.mem_singleton] at hc;subst hc;simp [EJ],rfl,Nat.le_refl _⟩,by
  subst he
  rintro h m ⟨es,c,s,k1,k2,k3,k4,k5,k6,_⟩
  exact ⟨es,c,k1,k4,k5⟩⟩
theorem Fp {t:Nat} {x y:Code} (g:Nat) (hgt:Nat.beq t g=false) (hAt:At B h0 Γ Λ F n a w) (hs:Λ t=some (NP sm si f rv l rem))
  (ht:∀ r1 p r2,rem=r1 ++ p :: r2→At B h0 Γ (fun k=>bif Nat.beq g k then some (dm (LY sm f rv l (r1 ++ r2) (some p)) si) else bif Nat.beq t k then none else Λ k) F n a w→x.qB ρ P Q a w)
  (hf:rem=[]→At B h0 Γ (fun k=>bif Nat.beq g k then some (dm (LY sm f rv l [] none) si) else bif Nat.beq t k then none else Λ k) F n a w→y.qB ρ P Q a w):(Code.cond (.tmp t) x y).qB ρ P Q a w:=by
 obtain ⟨h,L,hle,hst,rP,mV,hsz,hdf⟩:=hAt
 obtain ⟨e,hL,hq⟩:=rP t _ hs
 have hne:t≠g:=fun x=>by rw [jg.2 x] at hgt;cases hgt
 have key:∀ q:gQ,q si e→At B h0 Γ (fun k=>bif Nat.beq g k then some (dm q si) else bif Nat.beq t k then none else Λ k) F n a w:=by
  intro q hq
  refine ⟨h,mv L t g,hle,hst.mv t g,?_,mV,hsz,hdf⟩
  intro k q' hq'
  cases hk:Nat.beq g k with
  | true=>simp only [hk,cond_true] at hq';cases hq';rw [jg] at hk;subst hk;exact ⟨e,by simp [mv,hL],hq⟩
  | false =>
   simp only [hk,cond_false] at hq'
   cases hk2:Nat.beq t k with
   | true=>simp only [hk2,cond_true] at hq';cases hq'
   | false =>
    simp only [hk2,cond_false] at hq'
    have n1:k≠g:=fun x=>by rw [jg.2 x.symm] at hk;cases hk
    have n2:k≠t:=fun x=>by rw [jg.2 x.symm] at hk2;cases hk2
    obtain ⟨e',h1,h2⟩:=rP k q' hq'
    exact ⟨e',by simp [mv,n1,n2,h1],h2⟩
 rcases hq with ⟨hv,h1,h2⟩ | ⟨r1,p,r2,hv,h1,h2⟩
 ·exact wp_cond_split (t:=false) (show Act.eval a (.tmp t)=_ from hv) (fun e=>by cases e) (fun _=>hf h1 (key _ h2))
 ·exact wp_cond_split (t:=true) (show Act.eval a (.tmp t)=_ from hv) (fun _=>ht r1 p r2 h1 (key _ h2)) (fun e=>by cases e)
theorem BG {S R κ':Type} {body:Code} {f:S→κ'→Option S} {K:S→Option R} {r:R} {l:List κ'} (Inv:S→List κ'→Act→World→Prop) (Post:Exit→Act→World→Prop)
  (hb:∀ s rem a w,(∀ π,π.Perm rem→(J9 f π s).bind K=some r)→Inv s rem a w→body.qB ρ P (fun e a' w'=>(e = .normal∧∃ s' r1 p r2,rem=r1 ++ p :: r2∧f s p=some s'∧Inv s' (r1 ++ r2) a' w')∨(e ≠ .normal∧Post e a' w')) a w) :
  ∀ (s0:S) (a:Act) (w:World),(∀ π,π.Perm l→(J9 f π s0).bind K=some r)→Inv s0 l a w→(Code.loop body).qB ρ P Post a w:=by
 intro s0 a w hH hI b k cs hro hbf hrm
 have key:∀ N (l:List κ') s a w,l.length=N→(∀ π,π.Perm l→(J9 f π s).bind K=some r)→Inv s l a w →
   ∃ e a' w',Post e a' w'∧ArrivesIn (Machine.fenced P (MJ ρ)) P (lone (b.atR a (.code body :: .inLoop body :: k)) cs w) b k cs e a' w':=by
  intro N
  induction N using Nat.strongRecOn with
  | _ N ih =>
   intro l s a w hl hH hI
   obtain ⟨e,a₁,w₁,hq,harr⟩:=hb s l a w hH hI b (.inLoop body :: k) cs hro hbf hrm
   rcases hq with ⟨rfl,s',r1,p,r2,he,hs,hI'⟩ | ⟨hne,hp⟩
   ·obtain ⟨s2,hs2,hH'⟩:=Fq hH he
    rw [hs] at hs2;cases hs2
    obtain ⟨e₂,a₂,w₂,hq₂,harr₂⟩:=ih (r1 ++ r2).length (by rw [← hl,he];simp) (r1 ++ r2) s' a₁ w₁ rfl hH' hI'
    exact ⟨e₂,a₂,w₂,hq₂,.of_steps (StepsIn.trans harr (.one (fenced_calm hbf hrm rfl) stepR_inLoop)) harr₂⟩
   ·exact ⟨e,a₁,w₁,hp,.pass (x:=.inLoop body) rfl (fun _ _=>.inl hne) harr⟩
 obtain ⟨e,a',w',hq,harr⟩:=key _ l s0 a w rfl hH hI
 exact ⟨e,a',w',hq,.of_steps (.one (fenced_calm hbf hrm rfl) stepR_loop) harr⟩
end
end Go.KB
namespace Go.KB
variable {P:Program} {o:Oper} {N:List (Nat×bD)} {α β:Type}
theorem callsG {f:FuncId} {args:List bD} {pre:List (Nat×gQ)} {post:List Po} {res:bD} {gs:List Nat} {κ:Type} {B:Base} {h:H} {L:Nat→Option jh} {F:κ→Option jh} {w:World} {vs:List Value}
  (hc:iH P f args pre post none res) (hcc:FP pre gs=true) (hst:St B h (Sum.elim L F) w) (hlen:args.length=vs.length) (hpre:Oq pre (fun k=>(toC pre gs k).bind L) (TM fun k=>vs.getD k undef))
  (hargs:∀ (j:Nat) (g:bD) (u:Value),args[j]? = some g→vs[j]? = some u→g.p h undef u) :
  Calls P f vs.toArray w (fun e w'=>∃ v h' E',e = .returned v∧nO h h'∧St B h' (Sum.elim (fun s=>match Eh pre gs s with | some k=>E' k | none=>L s) F) w'∧Gt pre post E' (TM fun k=>vs.getD k undef)∧res.p h' undef v):=by
 have hst1:St B h (Sum.elim (fun k=>(toC pre gs k).bind L) (Sum.elim (fun s=>if (Eh pre gs s).isSome then none else L s) F)) w:=by
  refine hst.DI (fun k=>match k with | .inl k=>.inl ((toC pre gs k).getD 0) | .inr (.inl s)=>.inl s | .inr (.inr x)=>.inr x) ?_ ?_
  ·intro k e he
   cases k with
   | inl k =>
    simp only [Sum.elim_inl] at he
    cases ht:toC pre gs k with
    | none=>rw [ht] at he;cases he
    | some g=>rw [ht] at he;simpa [ht] using he
   | inr k=>cases k with
    | inl s =>
     simp only [Sum.elim_inr,Sum.elim_inl] at he
     split at he
     ·cases he
     ·exact he
    | inr x=>exact he
  ·intro k k' e e' hk1 hk2 hne
   have key:∀ k e,(toC pre gs k).bind L=some e→∃ g,toC pre gs k=some g∧Eh pre gs g=some k:=by
    intro k e he
    cases ht:toC pre gs k with
    | none=>rw [ht] at he;cases he
    | some g=>exact ⟨g,rfl,YP hcc ht⟩
   have keyS:∀ s e,(if (Eh pre gs s).isSome then none else L s)=some e→Eh pre gs s=none:=by
    intro s e he
    split at he
    ·cases he
    ·rename_i hh;simpa using hh
   cases k with
   | inl k =>
    obtain ⟨g,hg,hg'⟩:=key k e hk1
    cases k' with
    | inl k' =>
     obtain ⟨g2,hg2,Vg⟩:=key k' e' hk2
     intro he
     simp only [hg,hg2,Option.getD_some] at he
     have:=Sum.inl.inj he
     rw [this,Vg] at hg';cases hg';exact hne rfl
    | inr k'=>cases k' with
     | inl s =>
      intro he
      simp only [hg,Option.getD_some] at he
      have:=Sum.inl.inj he
      have h2:=keyS s e' hk2
      rw [← this,hg'] at h2;cases h2
     | inr x=>intro he;cases he
   | inr k=>cases k with
    | inl s =>
     have h2:=keyS s e hk1
     cases k' with
     | inl k' =>
      obtain ⟨g2,hg2,Vg⟩:=key k' e' hk2
      intro he
      simp only [hg2,Option.getD_some] at he
      have:=Sum.inl.inj he
      rw [this,Vg] at h2;cases h2
     | inr k'=>cases k' with
      | inl s'=>intro he;exact hne (by rw [Sum.inl.inj he])
      | inr x=>intro he;cases he
    | inr x=>cases k' with
     | inl k'=>intro he;cases he
     | inr k'=>cases k' with
      | inl s'=>intro he;cases he
      | inr x'=>intro he;exact hne (by rw [Sum.inr.inj he])
 refine (hc _ B _ h w vs _ hst1 hlen hpre hargs).mono ?_
 rintro e w' ⟨v,h',E',rfl,hl,hst',hpost,_,hp⟩
 refine ⟨v,h',E',rfl,hl,?_,hpost,hp⟩
 refine hst'.DI (fun k=>match k with | .inl s=>(match Eh pre gs s with | some k=>.inl k | none=>.inr (.inl s)) | .inr x=>.inr (.inr x)) ?_ ?_
 ·intro k e he
  cases k with
  | inr x=>exact he
  | inl s =>
   simp only [Sum.elim_inl] at he
   simp only []
   cases ho:Eh pre gs s with
   | some k=>rw [ho] at he;exact he
   | none=>rw [ho] at he;simpa [ho] using he
 ·intro k k' e e' hk1 hk2 hne
  cases k with
  | inr x=>cases k' with
   | inr x'=>intro he;exact hne (by rw [Sum.inr.inj (Sum.inr.inj he)])
   | inl s=>intro he;simp only [] at he;cases ho:Eh pre gs s <;> rw [ho] at he <;> cases he
  | inl s=>cases k' with
   | inr x=>intro he;simp only [] at he;cases ho:Eh pre gs s <;> rw [ho] at he <;> cases he
   | inl s' =>
    have hss:s≠s':=fun x=>hne (by rw [x])
    intro he
    simp only [] at he
    cases ho:Eh pre gs s with
    | none=>cases ho':Eh pre gs s' with
     | none=>rw [ho,ho'] at he;exact hss (Sum.inl.inj (Sum.inr.inj he))
     | some k'=>rw [ho,ho'] at he;cases he
    | some k=>cases ho':Eh pre gs s' with
     | none=>rw [ho,ho'] at he;cases he
     | some k' =>
      rw [ho,ho'] at he
      have:=Sum.inl.inj he
      subst this
      have h1:=RF hcc ho
      have h2:=RF hcc ho'
      rw [h1] at h2;exact hss (Option.some.inj h2)
abbrev KE:=List (Nat×jh)
def FO:KE→Nat→Option jh
 | [],_=>none
 | (k,e) :: r,s=>bif Nat.beq k s then some e else FO r s
def sW (l:KE):jh where
 claims:=l.flatMap (fun p=>p.2.claims)
 ok:=fun h m=>∀ p ∈ l,p.2.ok h m
 mono:=fun hl x p hp=>p.2.mono hl (x p hp)
 frame:=fun hm x p hp=>p.2.frame (fun c hc=>hm c (List.mem_flatMap.2 ⟨p,hp,hc⟩)) (x p hp)
def GV (l:KE):Prop:=l.Pairwise fun p p'=>Jy p.2.claims p'.2.claims
def Gu:KE→Bool
 | []=>true
 | (k,_) :: r=>!((FO r k).isSome)&&Gu r
theorem Nu:∀ {l:KE} {k:Nat} {e:jh},FO l k=some e→(k,e) ∈ l:=by
 intro l
 induction l with
 | nil=>intro k e h;cases h
 | cons x r ih =>
  obtain ⟨k0,e0⟩:=x
  intro k e h
  simp only [FO] at h
  cases hk:Nat.beq k0 k with
  | true=>rw [hk] at h;cases h;rw [jg] at hk;subst hk;simp
  | false=>rw [hk] at h;exact List.mem_cons_of_mem _ (ih h)
theorem Ko:∀ {l:KE} {k:Nat} {e:jh},(k,e) ∈ l→(FO l k).isSome=true:=by
 intro l
 induction l with
 | nil=>intro k e h;cases h
 | cons x r ih =>
  obtain ⟨k0,e0⟩:=x
  intro k e h
  simp only [FO]
  cases hk:Nat.beq k0 k with
  | true=>rfl
  | false =>
   rcases List.mem_cons.1 h with h | h
   ·cases h;rw [Nat.beq_refl] at hk;cases hk
   ·exact ih h
theorem GV.get {l:KE} (hd:GV l):∀ {k k':Nat} {e e':jh},FO l k=some e→FO l k'=some e'→k≠k'→Jy e.claims e'.claims:=by
 induction l with
 | nil=>intro k k' e e' h;cases h
 | cons x r ih =>
  obtain ⟨k0,e0⟩:=x
  intro k k' e e' h h' hne
  obtain ⟨h1,h2⟩:=List.pairwise_cons.1 hd
  simp only [FO] at h h'
  cases hk:Nat.beq k0 k with
  | true =>
   rw [hk] at h;cases h
   rw [jg] at hk;subst hk
   have hk':Nat.beq k0 k'=false:=by rw [Bool.eq_false_iff,Ne,jg];exact hne
   rw [hk'] at h'
   exact h1 _ (Nu h')
  | false =>
   rw [hk] at h
   cases hk':Nat.beq k0 k' with
   | true =>
    rw [hk'] at h';cases h'
    have:=h1 _ (Nu h)
    exact fun c hc c' hc' he=>this c' hc' c hc he.symm
   | false=>rw [hk'] at h';exact ih h2 h h' hne
section
variable {κ:Type} {B:Base} {h:H} {L:Nat→Option jh} {F:κ→Option jh} {w:World}
theorem J5 (hst:St B h (Sum.elim L F) w):∀ {l:KE},(∀ p ∈ l,L p.1=some p.2)→Gu l=true→GV l:=by
 intro l
 induction l with
 | nil=>intro _ _;exact List.Pairwise.nil
 | cons x r ih =>
  obtain ⟨k,e⟩:=x
  intro hL hn
  simp only [Gu,Bool.and_eq_true,Bool.not_eq_true'] at hn
  refine List.pairwise_cons.2 ⟨fun p hp=>?_,ih (fun p hp=>hL p (List.mem_cons_of_mem _ hp)) hn.2⟩
  have hne:k≠p.1:=fun e'=>by
   have:=Ko (l:=r) (k:=p.1) (e:=p.2) hp
   rw [← e',hn.1] at this;cases this
  exact fun c hc c' hc'=>hst.vN (k:=.inl k) (k':=.inl p.1) (hL _ List.mem_cons_self) (hL _ (List.mem_cons_of_mem _ hp)) (fun he=>hne (Sum.inl.inj he)) c hc c' hc'
theorem St.sW (hst:St B h (Sum.elim L F) w) {l:KE} (g:Nat) (hL:∀ p ∈ l,L p.1=some p.2):St B h (Sum.elim (fun k=>if k=g then some (sW l) else if (FO l k).isSome then none else L k) F) w:=by
  have key:∀ k e,(if k=g then some (KB.sW l) else if (FO l k).isSome then none else L k)=some e→(k=g∧e=KB.sW l)∨(k≠g∧(FO l k)=none∧L k=some e):=by
    intro k e he
    split at he
    · rename_i h1;cases he;exact .inl ⟨h1,rfl⟩
    · rename_i h1
      split at he
      · cases he
      · rename_i h2
        refine .inr ⟨h1,?_,he⟩
        cases hl:FO l k with
        | none=>rfl
        | some x=>rw [hl] at h2;exact absurd rfl h2
  refine ⟨hst.low,hst.base,fun x=>hst.ext x,?_,?_,hst.mark,fun x i y=>hst.nf x i y⟩
  · intro k e he
    cases k with
    | inr x=>exact hst.own (k:=.inr x) he
    | inl k =>
      rcases key k e he with ⟨rfl,rfl⟩ | ⟨_,_,hk⟩
      · refine ⟨fun c hc => ?_, fun p hp => (hst.own (k := .inl p.1) (hL p hp)).2⟩
        obtain ⟨p,hp,hc⟩:=List.mem_flatMap.1 hc
        exact (hst.own (k:=.inl p.1) (hL p hp)).1 c hc
      · exact hst.own (k:=.inl k) hk
  · have one:∀ (x:Nat ⊕ κ) e',Sum.elim (fun k=>if k=g then some (KB.sW l) else if (FO l k).isSome then none else L k) F x=some e'→x ≠ .inl g→∀ c ∈ (KB.sW l).claims,∀ c' ∈ e'.claims,c.1≠c'.1:=by
      intro x e' he hx c hc c' hc'
      obtain ⟨p,hp,hc⟩:=List.mem_flatMap.1 hc
      cases x with
      | inr y=>exact hst.vN (k:=.inl p.1) (k':=.inr y) (hL p hp) he (fun h=>by cases h) c hc c' hc'
      | inl k =>
        rcases key k e' he with ⟨rfl,_⟩ | ⟨_,h1,hk⟩
        · exact absurd rfl hx
        · have hne : p.1 ≠ k := fun e' => by have := Ko (l := l) (k := p.1) (e := p.2) hp; rw [e', h1] at this; cases this
          exact hst.vN (k:=.inl p.1) (k':=.inl k) (hL p hp) hk (fun h=>hne (Sum.inl.inj h)) c hc c' hc'
    intro k k' e e' he he' hne c hc c' hc'
    by_cases h1:k = .inl g
    · subst h1
      have:e=KB.sW l:=by
        rcases key g e he with ⟨_,h⟩ | ⟨h,_⟩
        · exact h
        · exact absurd rfl h
      subst this
      exact one k' e' he' (fun h=>hne h.symm) c hc c' hc'
    · by_cases h2 : k' = .inl g
      · subst h2
        have:e'=KB.sW l:=by
          rcases key g e' he' with ⟨_,h⟩ | ⟨h,_⟩
          · exact h
          · exact absurd rfl h
        subst this
        exact fun h=>one k e he h1 c' hc' c hc h.symm
      · have tr:∀ (x:Nat ⊕ κ) e',Sum.elim (fun k=>if k=g then some (KB.sW l) else if (FO l k).isSome then none else L k) F x=some e'→x ≠ .inl g→Sum.elim L F x=some e':=by
          intro x e' he hx
          cases x with
          | inr y=>exact he
          | inl k =>
            rcases key k e' he with ⟨rfl,_⟩ | ⟨_,_,hk⟩
            · exact absurd rfl hx
            · exact hk
        exact hst.vN (tr k e he h1) (tr k' e' he' h2) hne c hc c' hc'
theorem St.splitK (hst:St B h (Sum.elim L F) w) {l:KE} {g:Nat} (hg:L g=some (KB.sW l)) (hd:GV l):St B h (Sum.elim (fun k=>match FO l k with | some e=>some e | none=>if k=g then none else L k) F) w:=by
 obtain ⟨hcl,hok⟩:=hst.own (k:=.inl g) hg
 have key:∀ k e,(match FO l k with | some e=>some e | none=>if k=g then none else L k)=some e→FO l k=some e∨(FO l k=none∧k≠g∧L k=some e):=by
  intro k e he
  cases hl:FO l k with
  | some e0=>rw [hl] at he;cases he;exact .inl rfl
  | none =>
   rw [hl] at he
   simp only [] at he
   split at he
   ·cases he
   ·rename_i h1;exact .inr ⟨rfl,h1,he⟩
 have cl:∀ {k e c},FO l k=some e→c ∈ e.claims→c ∈ (KB.sW l).claims:=fun hk hc=>List.mem_flatMap.2 ⟨_,Nu hk,hc⟩
 refine ⟨hst.low,hst.base,fun x=>hst.ext x,?_,?_,hst.mark,fun x i y=>hst.nf x i y⟩
 ·intro k e he
  cases k with
  | inr x=>exact hst.own (k:=.inr x) he
  | inl k =>
   rcases key k e he with hk | ⟨_,_,hk⟩
   ·exact ⟨fun c hc=>hcl c (cl hk hc),hok _ (Nu hk)⟩
   ·exact hst.own (k:=.inl k) hk
 ·intro k k' e e' he he' hne c hc c' hc'
  have out:∀ (x:Nat ⊕ κ) e',Sum.elim (fun k=>match FO l k with | some e=>some e | none=>if k=g then none else L k) F x=some e'→(∃ k,x = .inl k∧FO l k=some e')∨(x ≠ .inl g∧Sum.elim L F x=some e'):=by
   intro x e' he
   cases x with
   | inr y=>exact .inr ⟨fun h=>(by cases h),he⟩
   | inl k =>
    rcases key k e' he with hk | ⟨_,h1,hk⟩
    ·exact .inl ⟨k,rfl,hk⟩
    ·exact .inr ⟨fun h=>h1 (Sum.inl.inj h),hk⟩
  rcases out k e he with ⟨k1,rfl,h1⟩ | ⟨h1,h2⟩
  ·rcases out k' e' he' with ⟨k2,rfl,h3⟩ | ⟨h3,h4⟩
   ·exact hd.get h1 h3 (fun h=>hne (by rw [h])) c hc c' hc'
   ·exact hst.vN (k:=.inl g) hg h4 (fun h=>h3 h.symm) c (cl h1 hc) c' hc'
  ·rcases out k' e' he' with ⟨k2,rfl,h3⟩ | ⟨h3,h4⟩
   ·exact hst.vN h2 (k':=.inl g) hg h1 c hc c' (cl h3 hc')
   ·exact hst.vN h2 h4 hne c hc c' hc'
end
def YlOk (P:Program) {X ι:Type} (A:ι→List bD) (YE:X→jh→Prop) (Y:X→ι→Option (X×Bool)) (h:H) (l:Nat):Prop :=
 ∀ (i:ι) (x x':X) (b:Bool),Y x i=some (x',b)→∀ (κ:Type) (B:Base) (L:κ→Option jh) (h':H) (w:World) (vs:List Value) (e:jh),nO h h'→St B h' (Sum.elim (fun _:Unit=>some e) L) w→YE x e→(A i).length=vs.length →
  (∀ (j:Nat) (g:bD) (v:Value),(A i)[j]? = some g→vs[j]? = some v→g.p h' undef v) →
  YieldAt (MJ none) 0 P l vs.toArray w (fun en w'=>∃ h'' e',en = .returned (.bool b)∧nO h' h''∧St B h'' (Sum.elim (fun _:Unit=>some e') L) w'∧YE x' e')
def Iw (P:Program) {X ι:Type} (A:ι→List bD) (YE:X→jh→Prop) (Y:X→ι→Option (X×Bool)):bD :=
 ⟨none,fun h _ v=>∃ l,v = .func (.yield l) #[] #[]∧YlOk P A YE Y h l,fun hl ⟨l,e,k⟩=>⟨l,e,fun i x x' b hY κ B L h' w vs en hl'=>k i x x' b hY κ B L h' w vs en (hl.trans hl')⟩⟩
def yE {X:Type} (YE:X→jh→Prop) (x:X):gQ:=fun _ e=>YE x e
theorem Gh.yE {X:Type} {YE:X→jh→Prop} {x:X}:Gh (yE YE x):=fun _ _ _ h=>h
theorem Iy {X ι:Type} {A:ι→List bD} {YE:X→jh→Prop} {Y:X→ι→Option (X×Bool)} (i:ι) {x x':X} {b:Bool} {g:Nat} {z:Operand} {xs:Array Operand} {ts:Array TypeId} (hY:Y x i=some (x',b)) (hd:qw (A i)=true)
  (ho:o.op = .call { callee:=.value z,args:=xs,argTypes:=ts }) (hz:dD N z (Iw P A YE Y)) (hargs:wW N (A i) xs.toList):fC P o N [(g,yE YE x)] (fV Rep.bool b) [(g,some (yE YE x'))]:=by
 intro κ B F L h a w hst hn hk hdn next Q hnext _
 obtain ⟨e,hL,hq⟩:=hk.1
 have hL:L g=some e:=hL
 obtain ⟨l,hv,hyl⟩:=hz h a hn
 have hdp:=oz hd
 obtain ⟨hlen,hall⟩:=hargs.spec
 have hst1:St B h (Sum.elim (fun _:Unit=>some e) (Sum.elim (fun k=>if k=g then none else L k) F)) w:=by
  have:=(Io hL).symm ▸ hst
  exact St.out this
 obtain ⟨fn,tmps,assign,body,hy,hR⟩:=hyl i x x' b hY _ B _ h w (xs.toList.map a.eval) e (nO.refl h) hst1 hq (by rw [List.length_map];exact hlen) (by
  intro j gg v hg hv
  rw [List.getElem?_map] at hv
  cases hx:xs.toList[j]? with
  | none=>rw [hx] at hv;cases hv
  | some x =>
   rw [hx] at hv;cases hv
   have:=hall j gg x hg hx h a hn
   unfold bD.dv at this
   rw [hdp gg (List.mem_of_getElem? hg)] at this
   exact this)
 have e1:(xs.toList.map a.eval).toArray=xs.map a.eval:=by apply Array.ext';simp
 rw [e1] at hy
 have hrun:(execOp a.eval o).run P w = .ok (.round l fn tmps assign body) w:=by
  simp only [execOp,ho,Sem.run_bind]
  simp [resolve,hv,Deferred.ofValue,invoke,hy]
 unfold Oper.qB
 rw [hrun]
 show RoundIn (MJ none) 0 P l fn tmps assign body w _
 refine hR.mono ?_
 rintro en w' ⟨h',e',rfl,hl,hst',hq'⟩
 refine hnext (.bool b) h' w' _ hl (kW.2 rfl) hst'.into ?_
 exact nP hq'
def mO (l:Nat) (r:Loop):jh where
 claims:=[(l,0)]
 ok:=fun _ m=>m l=some (.loop r)
 mono:=fun _ x=>x
 frame:=fun hm x=>by rw [hm (l,0) (by simp)];exact x
def oI (D:Nat):jh where
 claims:=[(D,0)]
 ok:=fun _ m=>m D=some (.deferred (some []))
 mono:=fun _ x=>x
 frame:=fun hm x=>by rw [hm (D,0) (by simp)];exact x
def YR (l:Nat) (r:Loop):gQ:=fun _ e=>e=mO l r
def JQ (D:Nat):gQ:=fun _ e=>e=oI D
def TP (r:Loop):Loop:={ r with state:=.busy }
def mark (D:Nat):Deferred:={ target:=.collected D,args:=#[] }
def Xq (Λ:Own):List (Nat×gQ)→Prop
 | []=>True
 | (k,q) :: r=>Λ k=some q∧Xq Λ r
def GhL:List (Nat×gQ)→Prop
 | []=>True
 | (_,q) :: r=>Gh q∧GhL r
def xOf (js:List Exit):Option Nat→Exit
 | none=>.normal
 | some k=>js.getD k .normal
def cdOf:Exit→Option Code
 | .ret=>some .ret
 | .exit id=>some (.exit id)
 | _=>none
def Wh:List Exit→Bool
 | []=>true
 | e :: r=>(cdOf e).isSome&&Wh r
def yl {S ι:Type} (g:S→ι→Option (S×Option Nat)) (m:Nat):S×Option Nat→ι→Option ((S×Option Nat)×Bool):=fun x i=>match x.2 with
 | none=>(match g x.1 i with
  | some (s',j)=>(match j with | none=>some ((s',none),true) | some k=>bif Nat.blt k m then some ((s',some k),false) else none)
  | none=>none)
 | some _=>none
def RoundP (n:Nat) {κ:Type} (B:Base) (h0:H) (F:κ→Option jh) (l:Nat) (r:Loop) (D:Nat) (Qs:List (Nat×gQ)) (js:List Exit) (j:Option Nat):Exit→Act→World→Prop :=
 fun e a w=>xOf js j=e∧∃ Γ Λ,At B h0 Γ Λ F n a w∧Λ 4998=some (YR l (TP r))∧Λ 4999=some (JQ D)∧Xq Λ Qs
section
variable {κ:Type} {B:Base} {h h0:H} {L:Nat→Option jh} {Γ:Ctx} {Λ:Own} {F:κ→Option jh} {n:Nat} {a:Act} {w:World} {l D:Nat} {r:Loop}
theorem RG (hst:St B h (Sum.elim L F) w) {k:Nat} (hL:L k=some (mO l r)) (r':Loop):w.heap[l]? = some (.loop r)∧St B h (Sum.elim (set1 L k (mO l r')) F) (w.putObj l (.loop r')):=by
 obtain ⟨hcl,hok⟩:=hst.own (k:=Sum.inl k) hL
 have hl:w.heap[l]? = some (.loop r):=hok
 have hlt:=(Array.getElem?_eq_some_iff.1 hl).1
 refine ⟨hl,?_⟩
 have hno:=fun o'=>(hcl (l,0) (by simp [mO])).2.2 o' (Nat.zero_le _)
 refine hst.step (hnf:=hst.KT (k:=Sum.inl k) hL (by simp [mO])) (Sum.inl k) (fun i=>i=l) (fun i hi _=>⟨_,hL,(l,0),by simp [mO],hi.symm⟩) (by simp) rfl rfl rfl (fun i _ hi=>World.putObj_heap_other hi) (nO.refl h) (fun _ _ _ _=>rfl) ?_ um ?_
 ·rintro i o' u (rfl | hi) hu
  ·rw [hno o'] at hu;cases hu
  ·rw [hst.fresh hi] at hu;cases hu
 ·intro e' he
  rw [uo he]
  refine ⟨fun c hc=>?_,World.putObj_heap_same hlt⟩
  simp only [mO,List.mem_singleton] at hc
  subst hc
  exact ⟨.inr ⟨_,hL,(l,0),by simp [mO],rfl⟩,by simpa using hlt,fun o' _=>hno o'⟩
theorem EF {body:Code} {K:Exit→Act→World→Prop} (hAt:At B h0 Γ Λ F n a w) (h8:Λ 4998=some (YR l r)) (hr:r.state = .ready)
  (hk:∀ w,At B h0 Γ (fun k=>bif Nat.beq 4998 k then some (YR l (TP r)) else Λ k) F n a w→body.qB (some l) P K a w):∃ w₂,(Instr.beginRound l).run P w = .ok () w₂∧body.qB (some l) P K a w₂:=by
 obtain ⟨h,L,hle,hst,rP,mV,hsz,hdf⟩:=hAt
 obtain ⟨e,hL,rfl⟩:=rP 4998 _ h8
 obtain ⟨hl,hst'⟩:=RG hst hL (TP r)
 refine ⟨_,run_beginRound hl hr,hk _ ⟨h,_,hle,hst',?_,mV,hsz,hdf⟩⟩
 intro k q hq
 cases hb:Nat.beq 4998 k with
 | true=>simp only [hb,cond_true] at hq;cases hq;rw [jg] at hb;subst hb;exact ⟨_,qR,rfl⟩
 | false =>
  simp only [hb,cond_false] at hq
  have n1:k≠4998:=fun x=>by rw [jg.2 x.symm] at hb;cases hb
  obtain ⟨e1,h2,h3⟩:=rP k q hq
  exact ⟨e1,by simp [set1,n1,h2],h3⟩
theorem ZV {fn:Func} {R:Ending→World→Prop} {D:Nat} (hAt:At (B.d (mark D)) h0 Γ Λ F n a w) (h9:Λ 4999=some (JQ D))
  (hk:∀ (a:Act) (w:World),At B h0 Γ (fun k=>bif Nat.beq 4999 k then none else Λ k) F n a w→B.df=[]→JG P fn R .ret a w):B.df=[]→JG P fn R .ret a w:=by
 intro hB
 obtain ⟨h,L,hle,hst,rP,mV,hsz,hdf⟩:=hAt
 obtain ⟨e,hL,rfl⟩:=rP 4999 _ h9
 obtain ⟨hcl,hok⟩:=hst.own (k:=Sum.inl 4999) hL
 have hD:w.heap[D]? = some (.deferred (some [])):=hok
 have hno:=fun o'=>(hcl (D,0) (by simp [oI])).2.2 o' (Nat.zero_le _)
 have hst':St B h (Sum.elim (fun k=>if k=4999 then none else L k) F) (w.putObj D (.deferred none)):=by
  refine hst.ofD.step (hnf:=hst.ofD.KT (k:=Sum.inl 4999) hL (by simp [oI])) (Sum.inl 4999) (fun i=>i=D) (fun i hi _=>⟨_,hL,(D,0),by simp [oI],hi.symm⟩) (by simp) rfl rfl rfl (fun i _ hi=>World.putObj_heap_other hi) (nO.refl h) (fun _ _ _ _=>rfl) ?_ ?_ ?_
  ·rintro i o' u (rfl | hi) hu
   ·rw [hno o'] at hu;cases hu
   ·rw [hst.fresh hi] at hu;cases hu
  ·intro k' e' hne he
   cases k' with
   | inr x=>exact he
   | inl k =>
    have:k≠4999:=fun x=>hne (by rw [x])
    simpa [this] using he
  ·intro e' he;simp at he
 have hdf':a.defers=[mark D]:=by rw [hdf];show mark D :: B.df=_;rw [hB]
 have:=hk { a with defers:=[] } (w.putObj D (.deferred none)) ⟨h,_,hle,hst',?_,fun s=>mV s,hsz,hB.symm⟩ hB
 ·rcases this with ⟨_,v,h1,h2⟩ | ⟨D',w',h1,_⟩
  ·exact .inr ⟨D,_,hdf',run_takeDeferred hD,v,h1,h2⟩
  ·cases h1
 ·intro k q hq
  cases hb:Nat.beq 4999 k with
  | true=>simp only [hb,cond_true] at hq;cases hq
  | false =>
   simp only [hb,cond_false] at hq
   have n1:k≠4999:=fun x=>by rw [jg.2 x.symm] at hb;cases hb
   obtain ⟨e1,h2,h3⟩:=rP k q hq
   exact ⟨e1,by simp [n1,h2],h3⟩
end
end Go.KB
namespace Go.KB
variable {P:Program}
def uP:List Nat→Bool
 | []=>true
 | k :: r=>!(has r k)&&uP r
def ZH:List (Nat×gQ)→KE→Prop
 | (k,q) :: r,(k',e) :: es=>k'=k∧q undef e∧ZH r es
 | [],[]=>True
 | _,_=>False
theorem RH:∀ {l:KE} {k:Nat},has (l.map (·.1)) k=(FO l k).isSome:=by
 intro l
 induction l with
 | nil=>intro k;rfl
 | cons x r ih =>
  obtain ⟨k0,e⟩:=x
  intro k
  simp only [List.map_cons,has,FO]
  cases Nat.beq k0 k with
  | true=>rfl
  | false=>simpa using ih
theorem Xr:∀ {l:KE},uP (l.map (·.1))=true→Gu l=true:=by
 intro l
 induction l with
 | nil=>intro _;rfl
 | cons x r ih =>
  obtain ⟨k0,e⟩:=x
  intro h
  simp only [List.map_cons,uP,RH,Bool.and_eq_true] at h
  simp only [Gu,Bool.and_eq_true]
  exact ⟨h.1,ih h.2⟩
theorem Qy {Λ:Own} {L:Nat→Option jh} {a:Act} (rP:NF Λ L a):∀ {Qs:List (Nat×gQ)},Xq Λ Qs→GhL Qs→∃ kes:KE,kes.map (·.1)=Qs.map (·.1)∧ZH Qs kes∧∀ p ∈ kes,L p.1=some p.2:=by
 intro Qs
 induction Qs with
 | nil=>intro _ _;exact ⟨[],rfl,trivial,fun p hp=>by cases hp⟩
 | cons x r ih =>
  obtain ⟨k,q⟩:=x
  intro h hg
  obtain ⟨e,hL,hq⟩:=rP k q h.1
  obtain ⟨kes,h1,h2,h3⟩:=ih h.2 hg.2
  refine ⟨(k,e) :: kes,by simp [h1],⟨rfl,hg.1 _ _ _ hq,h2⟩,fun p hp=>?_⟩
  rcases List.mem_cons.1 hp with rfl | hp
  ·exact hL
  ·exact h3 p hp
theorem TQ:∀ {Qs:List (Nat×gQ)} {kes:KE},ZH Qs kes→kes.map (·.1)=Qs.map (·.1):=by
 intro Qs
 induction Qs with
 | nil=>intro kes h;cases kes with
  | nil=>rfl
  | cons _ _=>exact h.elim
 | cons x r ih =>
  obtain ⟨k,q⟩:=x
  intro kes h
  cases kes with
  | nil=>exact h.elim
  | cons y es=>obtain ⟨k',e⟩:=y;obtain ⟨rfl,_,h3⟩:=h;simp [ih h3]
theorem Wi:∀ {Qs:List (Nat×gQ)} {kes:KE},ZH Qs kes→GhL Qs→∀ {k q},Ej Qs k=some q→∃ e,FO kes k=some e∧∀ v,q v e:=by
 intro Qs
 induction Qs with
 | nil=>intro kes _ _ k q h;cases h
 | cons x r ih =>
  obtain ⟨k0,q0⟩:=x
  intro kes h hg k q hq
  cases kes with
  | nil=>exact h.elim
  | cons y es =>
   obtain ⟨k',e⟩:=y
   obtain ⟨rfl,h2,h3⟩:=h
   simp only [Ej,VG] at hq
   simp only [FO]
   cases hb:Nat.beq k' k with
   | true=>rw [hb] at hq;cases hq;exact ⟨e,rfl,fun v=>hg.1 _ _ _ h2⟩
   | false=>rw [hb] at hq;exact ih h3 hg.2 hq
def Lu:List (Nat×gQ)→List Nat→List Po→List (Nat×gQ)
 | _ :: r,g :: gs,.to q :: ps=>(g,q) :: Lu r gs ps
 | (_,q) :: r,g :: gs,.keep :: ps=>(g,q) :: Lu r gs ps
 | _ :: r,_ :: gs,.gone :: ps=>Lu r gs ps
 | _,_,_=>[]
theorem YS {E:Nat→Option jh} {g:Nat→Value}:∀ {pre:List (Nat×gQ)} {post:List Po} {gs:List Nat},Gt pre post E (TM g)→vF [] [] pre post gs→FP pre gs=true→∀ {k q},Ej (Lu pre gs post) k=some q →
  ∃ e k',Eh pre gs k=some k'∧E k'=some e∧∀ v,q v e:=by
 intro pre
 induction pre with
 | nil=>intro post gs _ hk _ k q h;cases post <;> cases gs <;> first | exact hk.elim | cases h
 | cons x r ih =>
  obtain ⟨k0,q0⟩:=x
  intro post gs hp hk hc k q hq
  cases post with
  | nil=>cases gs <;> exact hk.elim
  | cons p ps=>cases gs with
   | nil=>exact hk.elim
   | cons g0 gs =>
    obtain ⟨h1,h2⟩:=hk
    simp only [FP,Bool.and_eq_true,Bool.not_eq_true'] at hc
    have tail:Ej (Lu r gs ps) k=some q→∃ e k',Eh ((k0,q0) :: r) (g0 :: gs) k=some k'∧E k'=some e∧∀ v,q v e:=fun hq=>by
     obtain ⟨e,k',h3,h4,h5⟩:=ih hp.2 h2 hc.2 hq
     have h6:=(RD h3).1
     have:Nat.beq g0 k=false:=by
      rw [Bool.eq_false_iff,Ne,jg];intro e;subst e;rw [h6] at hc;exact absurd hc.1.1.1 (by simp)
     exact ⟨e,k',by simp only [Eh,this,cond_false];exact h3,h4,h5⟩
    have one:∀ q':gQ,Gh q'→(∃ e,E k0=some e∧q' (TM g k0) e)→Ej ((g0,q') :: Lu r gs ps) k=some q→∃ e k',Eh ((k0,q0) :: r) (g0 :: gs) k=some k'∧E k'=some e∧∀ v,q v e:=by
     rintro q' hgh ⟨e,he,hqe⟩ hq
     simp only [Ej,VG] at hq
     cases hb:Nat.beq g0 k with
     | false=>rw [hb] at hq;exact tail hq
     | true =>
      rw [hb] at hq;cases hq
      exact ⟨e,k0,by simp only [Eh,hb,cond_true],he,fun v=>hgh _ _ _ hqe⟩
    have hgh:Gh q0∧∀ q',p = .to q'→Gh q':=by
     rcases h1 with ⟨_,hg,hg'⟩ | ⟨_,x,hx,_⟩
     ·exact ⟨hg,hg'⟩
     ·simp at hx
    cases p with
    | gone=>exact tail hq
    | to q'=>exact one q' (hgh.2 q' rfl) hp.1 hq
    | keep=>exact one q0 hgh.1 hp.1 hq
theorem Vj {l1 l2:List (Nat×gQ)} {k:Nat}:Ej (l1 ++ l2) k=(match Ej l1 k with | some q=>some q | none=>Ej l2 k):=by
 induction l1 with
 | nil=>rfl
 | cons x r ih =>
  obtain ⟨k0,q⟩:=x
  simp only [Ej,List.cons_append,VG] at ih ⊢
  cases Nat.beq k0 k with
  | true=>rfl
  | false=>exact ih
theorem Wj:∀ {l:List (Nat×gQ)} {k:Nat} {q:gQ},Ej l k=some q→has (l.map (·.1)) k=true:=by
 intro l
 induction l with
 | nil=>intro k q h;cases h
 | cons x r ih =>
  obtain ⟨k0,q0⟩:=x
  intro k q h
  simp only [Ej,VG] at h
  simp only [List.map_cons,has,Bool.or_eq_true]
  cases hb:Nat.beq k0 k with
  | true=>exact .inl rfl
  | false=>rw [hb] at h;exact .inr (ih h)
theorem YT:∀ {pre:List (Nat×gQ)} {gs:List Nat} {ps:List Po} {k:Nat},has ((Lu pre gs ps).map (·.1)) k=true→has gs k=true:=by
 intro pre
 induction pre with
 | nil=>intro gs ps k h;cases gs <;> cases ps <;> cases h
 | cons x r ih =>
  obtain ⟨k0,q0⟩:=x
  intro gs ps k h
  cases gs with
  | nil=>cases ps <;> cases h
  | cons g gs=>cases ps with
   | nil=>cases h
   | cons p ps =>
    have two:∀ q:gQ,has (((g,q) :: Lu r gs ps).map (·.1)) k=true→has (g :: gs) k=true:=by
     intro q h
     simp only [List.map_cons,has,Bool.or_eq_true] at h
     simp only [has,Bool.or_eq_true]
     exact h.imp id ih
    cases p with
    | gone=>simp only [Lu] at h;simp only [has,ih h,Bool.or_true]
    | to q=>exact two q h
    | keep=>exact two q0 h
def Ov:List Nat→List bD→List (Nat×bD)
 | p :: ps,f :: fs=>(p,f) :: Ov ps fs
 | _,_=>[]
def Vk:List (Nat×bD)→Bool
 | []=>true
 | (_,f) :: r=>f.dep.isNone&&Vk r
theorem LC:∀ {l:List (Nat×bD)} {s:Nat},Vk l=true→(GR l s).dep=none:=by
 intro l
 induction l with
 | nil=>intro s _;rfl
 | cons x r ih =>
  obtain ⟨k,f⟩:=x
  intro s h
  simp only [Vk,Bool.and_eq_true] at h
  simp only [GR,SG]
  cases hb:Nat.beq k s with
  | true =>
   rw [cond_true]
   cases hd:f.dep with
   | none=>rfl
   | some d=>rw [hd] at h;cases h.1
  | false=>exact ih h.2
theorem Xt {h:H} {Γl:List (Nat×bD)}:∀ {ps:List Nat} {A:List bD} {vs:List Value} (tmps:Array Value),uP ps=true→(∀ p ∈ ps,p<tmps.size)→A.length=ps.length→vs.length=ps.length→qw A=true→(∀ s,(GR Γl s).p h undef (tmps.getD s undef))→(∀ (j:Nat) (g:bD) (v:Value),A[j]? = some g→vs[j]? = some v→g.p h undef v) →
  ∀ s,(GR (Ov ps A ++ Γl) s).p h undef (((ps.zip vs).foldl (fun t (p:Nat×Value)=>t.setIfInBounds p.1 p.2) tmps).getD s undef):=by
 intro ps
 induction ps with
 | nil=>intro A vs tmps _ _ hA _ _ hG _ s;cases A with
  | nil=>exact hG s
  | cons _ _=>simp at hA
 | cons p ps ih =>
  intro A vs tmps hn hlt hA hv hd hG hargs s
  cases A with
  | nil=>simp at hA
  | cons f A=>cases vs with
   | nil=>simp at hv
   | cons v vs =>
    simp only [uP,Bool.and_eq_true,Bool.not_eq_true'] at hn
    simp only [qw,Bool.and_eq_true] at hd
    -- the others first: p keeps its value
    have keep:∀ (ps:List Nat) (vs:List Value) (t:Array Value),has ps p=false→((ps.zip vs).foldl (fun t (p:Nat×Value)=>t.setIfInBounds p.1 p.2) t).getD p undef=t.getD p undef:=by
     intro ps
     induction ps with
     | nil=>intro vs t _;rfl
     | cons p' ps ih' =>
      intro vs t hh
      cases vs with
      | nil=>rfl
      | cons v' vs =>
       simp only [has,Bool.or_eq_false_iff] at hh
       simp only [List.zip_cons_cons,List.foldl_cons]
       rw [ih' vs _ hh.2]
       have:p'≠p:=fun e=>by rw [jg.2 e] at hh;cases hh.1
       simp [Array.getD_eq_getD_getElem?,Array.getElem?_setIfInBounds_ne this]
    simp only [List.zip_cons_cons,List.foldl_cons,Ov,List.cons_append]
    show (bif Nat.beq p s then f else GR (Ov ps A ++ Γl) s).p h undef _
    cases hb:Nat.beq p s with
    | true =>
     rw [jg] at hb;subst hb
     rw [keep ps vs _ hn.1]
     have hp:=hlt p (by simp)
     have:(tmps.setIfInBounds p v).getD p undef=v:=by simp [Array.getD_eq_getD_getElem?,hp]
     rw [this]
     exact hargs 0 f v rfl rfl
    | false =>
     rw [cond_false]
     -- facts on p itself are not asked for any more
     have hps:p≠s:=fun e=>by rw [jg.2 e] at hb;cases hb
     have key:∀ (ps:List Nat) (A:List bD) (vs:List Value) (t t':Array Value),t.size=t'.size→(∀ k,k≠p→t.getD k undef=t'.getD k undef)→∀ k,k≠p→((ps.zip vs).foldl (fun t (q:Nat×Value)=>t.setIfInBounds q.1 q.2) t).getD k undef=((ps.zip vs).foldl (fun t (q:Nat×Value)=>t.setIfInBounds q.1 q.2) t').getD k undef:=by
      intro ps
      induction ps with
      | nil=>intro _ vs t t' _ h k hk;exact h k hk
      | cons p' ps ih' =>
       intro A vs t t' hs h k hk
       cases vs with
       | nil=>exact h k hk
       | cons v' vs =>
        simp only [List.zip_cons_cons,List.foldl_cons]
        refine ih' A vs _ _ (by simp [hs]) (fun m hm=>?_) k hk
        by_cases hpm:p'=m
        ·subst hpm
         by_cases hlt:p'<t.size
         ·simp [Array.getD_eq_getD_getElem?,hlt,hs ▸ hlt]
         ·simp [Array.getD_eq_getD_getElem?,hlt,show ¬p'<t'.size by omega]
        ·have:=h m hm
         simpa [Array.getD_eq_getD_getElem?,Array.getElem?_setIfInBounds_ne hpm] using this
     rw [key ps A vs (tmps.setIfInBounds p v) tmps (by simp) (fun k hk=>by simp [Array.getD_eq_getD_getElem?,Array.getElem?_setIfInBounds_ne (Ne.symm hk)]) s (Ne.symm hps)]
     exact ih tmps hn.2 (fun q hq=>hlt q (List.mem_cons_of_mem _ hq)) (by simpa using hA) (by simpa using hv) hd.2 hG (fun j g u hg hu=>hargs (j+1) g u hg hu) s
theorem Vl {ps:List Nat}:∀ {vs:List Value} {t:Array Value},((ps.zip vs).foldl (fun t (p:Nat×Value)=>t.setIfInBounds p.1 p.2) t).size=t.size:=by
 induction ps with
 | nil=>intro vs t;rfl
 | cons p ps ih=>intro vs t;cases vs with
  | nil=>rfl
  | cons v vs=>simp only [List.zip_cons_cons,List.foldl_cons];rw [ih];simp
theorem Qz:∀ {js:List Exit} {k:Nat},Wh js=true→k<js.length→∃ c,cdOf (js.getD k .normal)=some c:=by
 intro js
 induction js with
 | nil=>intro k _ h;cases h
 | cons e r ih =>
  intro k h hk
  simp only [Wh,Bool.and_eq_true] at h
  cases k with
  | zero=>exact Option.isSome_iff_exists.1 h.1
  | succ k=>simpa using ih h.2 (by simpa using hk)
theorem jJv {e:Exit} {c:Code} {Q:Exit→Act→World→Prop} {a:Act} {w:World} (hc:cdOf e=some c) (hq:Q e a w):c.wpIn (MJ none) 0 P Q a w:=by
 cases e <;> cases hc
 ·exact wpIn_exit hq
 ·exact wpIn_ret hq
section
variable {κ:Type} {B:Base} {h0:H} {Λ:Own} {F:κ→Option jh} {n:Nat} {a:Act} {w:World}
theorem IA {S ι:Type} {gf:FuncId} {fn:Func} {C:List bD} {t:Nat} {ps:List Nat} {assign body:Code} {Γl:List (Nat×bD)} {Qq:S→List (Nat×gQ)} {A:ι→List bD} {g:S→ι→Option (S×Option Nat)} {js:List Exit} {s0 s:S} {j:Option Nat}
  {IV:List (Nat×gQ)} {Hg:List Po} {gI ks:List Nat} {Qx:Exit→Act→World→Prop}
  (hAt:At B h0 (GR Γl) Λ F n a w) (ht:GR Γl t=jW gf C) (hf:P.funcs[gf]? = some fn) (hbd:vO fn=true)
  (hit:∀ YE:S×Option Nat→jh→Prop,iH P gf (Iw P A YE (yl g js.length) :: C) ((5000,yE YE (s0,none)) :: IV) (Po.to (yE YE (s,j)) :: Hg) none fT0)
  (hQ0:Xq Λ (Qq s0)) (hks:∀ s,(Qq s).map (·.1)=ks) (hG:∀ s,GhL (Qq s)) (hI:Xq Λ (TL IV gI)) (hIk:vF [] [] IV Hg gI)
  (uH:(uP (4997 :: 4998 :: 4999 :: (ks ++ gI))&&Vk Γl&&uP ps&&ps.all (fun p=>Nat.blt p n)&&Wh js)=true) (hcc:∀ q,FP ((5000,q) :: IV) (4997 :: gI)=true) (hA:∀ i,(A i).length=ps.length∧qw (A i)=true)
  (hround:∀ (s:S) (i:ι) (s':S) (j:Option Nat),g s i=some (s',j)→∀ (κ:Type) (B:Base) (h0:H) (F:κ→Option jh) (l:Nat) (r:Loop) (D:Nat) (a:Act) (w:World),r.state = .ready→At B h0 (GR (Ov ps (A i) ++ Γl)) (Ej ((4998,YR l r) :: (4999,JQ D) :: Qq s)) F n a w →
   assign.qB (some l) P (Exit.then (fun a₁ w₁=>∃ w₂,(Instr.beginRound l).run P w₁ = .ok () w₂∧body.qB (some l) P (RoundP n B h0 F l r D (Qq s') js j) a₁ w₂) (fun _ _ _=>False)) a w)
  (hdone:∀ (D:Nat) (a:Act) (w:World),At (B.d (mark D)) h0 (GR Γl) (Ej ((4999,JQ D) :: (Qq s ++ Lu IV gI Hg))) F n a w→Qx (xOf js j) a w):(Code.rangeFunc (.tmp t) ps.toArray assign body).qB none P Qx a w:=by
 simp only [Bool.and_eq_true] at uH
 obtain ⟨⟨⟨⟨hnd,hdG⟩,hnp⟩,hpl⟩,hjs⟩:=uH
 simp only [vO,Bool.and_eq_true,Bool.not_eq_true'] at hbd
 have hbody:fn.body≠none:=by
  intro hx;rw [hx] at hbd;cases hbd.1
 have hname:fn.name ≠ "runtime.NumGoroutine":=by simpa using hbd.2
 obtain ⟨h,L,hle,hst,rP,mV,hsz,hdf⟩:=hAt
 have htv:=mV t
 rw [ht] at htv
 obtain ⟨cap,hv,hcap⟩:=htv
 have hv:a.eval (.tmp t) = .func (.func gf) #[] cap.toArray:=hv
 refine wpIn_rangeFunc (F:=MJ none) (n:=0) ?_
 intro fnid _
 obtain ⟨yT,Ox⟩:∃ yT:Loop,yT={ state:=.ready,pending:=none,fn:=fnid,tmps:=a.tmps,params:=ps.toArray,assign,body,defers:=w.heap.size }:=⟨_,rfl⟩
 obtain ⟨D,hD⟩:∃ D,w.heap.size=D:=⟨_,rfl⟩
 obtain ⟨l,hl⟩:∃ l,w.heap.size+1=l:=⟨_,rfl⟩
 refine ⟨w.heap.size+1,[mark w.heap.size],(w.alloc (.deferred (some []))).alloc (.loop yT),{ target:=.fn (.func gf) cap.toArray,args:=#[.func (.yield (w.heap.size+1)) #[] #[]] },(w.alloc (.deferred (some []))).alloc (.loop yT),gf,
  #[.func (.yield (w.heap.size+1)) #[] #[]] ++ cap.toArray,(w.alloc (.deferred (some []))).alloc (.loop yT),by rw [Ox];exact run_enterLoop_outer _ _ _ _ _,?_,fun _ _=>trivial,?_,fun hh=>(by cases hh),KO.2 ?_⟩
 ·simp only [resolve,hv]
  simp [go_sem]
 ·simp [invoke,callFunc,hf,hname,hbody]
 -- the keys
 have hn3:has (ks ++ gI) 4997=false∧has (ks ++ gI) 4998=false∧has (ks ++ gI) 4999=false∧uP (ks ++ gI)=true:=by
  simp only [uP,has,Bool.and_eq_true,Bool.not_eq_true',Bool.or_eq_false_iff] at hnd
  exact ⟨hnd.1.2.2,hnd.2.1.2,hnd.2.2.1,hnd.2.2.2⟩
 have Nv:∀ (x y:List Nat) (k:Nat),has (x ++ y) k=(has x k||has y k):=by
  intro x y k
  induction x with
  | nil=>rfl
  | cons z x ih=>simp only [List.cons_append,has,ih,Bool.or_assoc]
 have hdisj:∀ k,has ks k=true→has gI k=true→False:=by
  have:∀ (x y:List Nat),uP (x ++ y)=true→∀ k,has x k=true→has y k=true→False:=by
   intro x
   induction x with
   | nil=>intro y _ k h;cases h
   | cons z x ih =>
    intro y hn k h1 h2
    simp only [List.cons_append,uP,Bool.and_eq_true,Bool.not_eq_true'] at hn
    simp only [has,Bool.or_eq_true] at h1
    rcases h1 with h1 | h1
    ·rw [jg] at h1;subst h1
     rw [Nv,h2,Bool.or_true] at hn;cases hn.1
    ·exact ih y hn.2 k h1 h2
  exact this ks gI hn3.2.2.2
 have Vm:∀ (x y:List Nat),uP (x ++ y)=true→uP x=true:=by
  intro x
  induction x with
  | nil=>intro y _;rfl
  | cons z x ih =>
   intro y hn
   simp only [List.cons_append,uP,Bool.and_eq_true,Bool.not_eq_true'] at hn
   rw [Nv,Bool.or_eq_false_iff] at hn
   simp only [uP,Bool.and_eq_true,Bool.not_eq_true']
   exact ⟨hn.1.1,ih y hn.2⟩
 have Xu:has ks 4997=false∧has ks 4998=false∧has ks 4999=false∧uP ks=true:=by
  have h1:=hn3.1;have h2:=hn3.2.1;have h3:=hn3.2.2.1
  rw [Nv,Bool.or_eq_false_iff] at h1 h2 h3
  exact ⟨h1.1,h2.1,h3.1,Vm _ _ hn3.2.2.2⟩
 have hgI':has gI 4997=false∧has gI 4998=false∧has gI 4999=false:=by
  have h1:=hn3.1;have h2:=hn3.2.1;have h3:=hn3.2.2.1
  rw [Nv,Bool.or_eq_false_iff] at h1 h2 h3
  exact ⟨h1.2,h2.2,h3.2⟩
 have nd:∀ {s:S} {kes:KE} (r:Loop),ZH (Qq s) kes→Gu ((4998,mO l r) :: (4999,oI D) :: kes)=true:=by
  intro s kes r hq
  refine Xr ?_
  have h1:=(TQ hq).trans (hks s)
  simp only [List.map_cons,h1,uP,has,Xu.2.1,Xu.2.2.1,Xu.2.2.2]
  rfl
 -- the state of the loop as an entry
 obtain ⟨Ai,Hz⟩:∃ Ai:Option Nat→Loop,Ai=fun x=>match x with | none=>yT | some k=>{ yT with state:=.done,pending:=cdOf (js.getD k .normal) }:=⟨_,rfl⟩
 obtain ⟨YE,hYE⟩:∃ YE:S×Option Nat→jh→Prop,YE=fun x e=>(∀ k,x.2=some k→k<js.length)∧∃ kes,ZH (Qq x.1) kes∧GV ((4998,mO l (Ai x.2)) :: (4999,oI D) :: kes)∧e=sW ((4998,mO l (Ai x.2)) :: (4999,oI D) :: kes):=⟨_,rfl⟩
 have lkQ:∀ {s:S} {kes:KE} (r:Loop) {k:Nat},ZH (Qq s) kes→has ks k=false→k≠4998→k≠4999→FO ((4998,mO l r) :: (4999,oI D) :: kes) k=none:=by
  intro s kes r k hq hk h8 h9
  have h1:=RH (l:=kes) (k:=k)
  rw [(TQ hq).trans (hks s),hk] at h1
  have n8:Nat.beq 4998 k=false:=by rw [Bool.eq_false_iff,Ne,jg];exact fun x=>h8 x.symm
  have n9:Nat.beq 4999 k=false:=by rw [Bool.eq_false_iff,Ne,jg];exact fun x=>h9 x.symm
  simp only [FO,n8,n9,cond_false]
  cases hl:FO kes k with
  | none=>rfl
  | some e=>rw [hl] at h1;cases h1
 have lkQ2:∀ {kes:KE} (r:Loop) {k:Nat},k≠4998→k≠4999→FO ((4998,mO l r) :: (4999,oI D) :: kes) k=FO kes k:=by
  intro kes r k h8 h9
  have n8:Nat.beq 4998 k=false:=by rw [Bool.eq_false_iff,Ne,jg];exact fun x=>h8 x.symm
  have n9:Nat.beq 4999 k=false:=by rw [Bool.eq_false_iff,Ne,jg];exact fun x=>h9 x.symm
  simp only [FO,n8,n9,cond_false]
 have ne8:∀ {k:Nat},has ks k=true→k≠4997∧k≠4998∧k≠4999:=fun {k} hk=>⟨fun e=>(by rw [e,Xu.1] at hk;cases hk),fun e=>(by rw [e,Xu.2.1] at hk;cases hk),fun e=>(by rw [e,Xu.2.2.1] at hk;cases hk)⟩
 have ne8I:∀ {k:Nat},has gI k=true→k≠4997∧k≠4998∧k≠4999:=fun {k} hk=>⟨fun e=>(by rw [e,hgI'.1] at hk;cases hk),fun e=>(by rw [e,hgI'.2.1] at hk;cases hk),fun e=>(by rw [e,hgI'.2.2] at hk;cases hk)⟩
 -- the start
 have hst1:=hst.zS (.deferred (some [])) 4999 (oI D) (by intro c hc;simp [oI] at hc;rw [hc,hD]) (by show World.mem _ D=_;rw [← hD];exact zT _ _)
 have hst2:=hst1.zS (.loop yT) 4998 (mO l yT) (by intro c hc;simp [mO] at hc;rw [hc,← hl];simp) (by show World.mem _ l=_;rw [← hl];have:=zT (w.alloc (.deferred (some []))) (.loop yT);rwa [World.size_alloc] at this)
 obtain ⟨kes,hk1,hk2,hk3⟩:=Qy rP hQ0 (hG s0)
 have hkm:∀ p ∈ kes,has ks p.1=true:=by
  intro p hp
  have:=RH (l:=kes) (k:=p.1)
  rw [hk1.trans (hks s0),Ko (k:=p.1) (e:=p.2) hp] at this
  exact this
 have hL2:∀ p ∈ ((4998,mO l yT) :: (4999,oI D) :: kes),(set1 (set1 L 4999 (oI D)) 4998 (mO l yT)) p.1=some p.2:=by
  intro p hp
  rcases List.mem_cons.1 hp with rfl | hp
  ·simp [set1]
  ·rcases List.mem_cons.1 hp with rfl | hp
   ·simp [set1]
   ·have h1:=ne8 (hkm p hp)
    simp [set1,h1.2.1,h1.2.2,hk3 p hp]
 have hdj:=J5 hst2 hL2 (nd yT hk2)
 have hst3:=hst2.sW 4997 hL2
 have hcap':(#[.func (.yield (w.heap.size+1)) #[] #[]] ++ cap.toArray:Array Value)=(Value.func (.yield l) #[] #[] :: cap).toArray:=by rw [← hl];apply Array.ext';simp
 rw [hcap']
 -- a round
 have hyl:YlOk P A YE (yl g js.length) h l:=by
  intro i x x' b hY κ' B' L' h1 w1 vs e hle1 hr1 hye hlen hargs
  subst hYE
  obtain ⟨xs,xj⟩:=x
  have hxj:xj=none:=by
   cases xj with
   | none=>rfl
   | some _=>cases hY
  subst hxj
  obtain ⟨_,kes1,hq1,hd1,rfl⟩:=hye
  have hro:Ai none=yT:=by rw [Hz]
  simp only [hro] at hd1 hr1
  cases hg:g xs i with
  | none=>simp only [yl,hg] at hY;cases hY
  | some y =>
   obtain ⟨s',j'⟩:=y
   have hjb:x'=(s',j')∧b=j'.isNone∧∀ k,j'=some k→k<js.length:=by
    simp only [yl,hg] at hY
    cases j' with
    | none=>cases hY;exact ⟨rfl,rfl,fun k hk=>(by cases hk)⟩
    | some k =>
     simp only [] at hY
     cases hb:Nat.blt k js.length with
     | false=>rw [hb] at hY;cases hY
     | true =>
      rw [hb] at hY;cases hY
      rw [Nat.blt_eq] at hb
      exact ⟨rfl,rfl,fun k' hk=>(by cases hk;exact hb)⟩
   obtain ⟨rfl,rfl,hjlt⟩:=hjb
   have hr2:St B' h1 (Sum.elim (fun k:Nat=>if k=4997 then some (sW ((4998,mO l yT) :: (4999,oI D) :: kes1)) else none) L') w1:=by
    refine hr1.DI (fun k=>match k with | .inl _=>.inl () | .inr x=>.inr x) ?_ ?_
    ·intro k e he
     cases k with
     | inr x=>exact he
     | inl k =>
      simp only [Sum.elim_inl] at he
      split at he
      ·exact he
      ·cases he
    ·intro k k' e e' hk hk' hne
     cases k with
     | inr x=>cases k' with
      | inr x'=>intro he;exact hne (by rw [Sum.inr.inj he])
      | inl k'=>intro he;cases he
     | inl k=>cases k' with
      | inr x'=>intro he;cases he
      | inl k' =>
       intro _
       simp only [Sum.elim_inl] at hk hk'
       split at hk
       ·split at hk'
        ·rename_i h1 h2;exact hne (by rw [h1,h2])
        ·cases hk'
       ·cases hk
   have hr3:=hr2.splitK (l:=(4998,mO l yT) :: (4999,oI D) :: kes1) (g:=4997) (by simp) hd1
   have hl1:w1.heap[l]? = some (.loop yT):=(hr3.own (k:=Sum.inl 4998) (e:=mO l yT) rfl).2
   refine ⟨fnid,_,assign,body,by have:=run_yield (P:=P) (args:=vs.toArray) hl1 (by rw [Ox];simp [← hlen,(hA i).1]);rw [Ox] at this;exact this,roundIn_of_wpIn trivial ?_⟩
   have hfold:∀ (t:Array Value),(ps.toArray.zip vs.toArray).foldl (fun tmps (x:Nat×Value)=>tmps.setIfInBounds x.1 x.2) t=(ps.zip vs).foldl (fun t (p:Nat×Value)=>t.setIfInBounds p.1 p.2) t:=by
    intro t
    rw [← Array.foldl_toList]
    congr 1
    simp
   have hact:At B'.e h1 (GR (Ov ps (A i) ++ Γl)) (Ej ((4998,YR l yT) :: (4999,JQ D) :: Qq xs)) L' n { tmps:=(ps.toArray.zip vs.toArray).foldl (fun tmps (x:Nat×Value)=>tmps.setIfInBounds x.1 x.2) a.tmps,defers:=[] } w1:=by
    refine ⟨h1,_,nO.refl h1,hr3.toE,?_,?_,?_,rfl⟩
    ·intro k q hq
     simp only [Ej,VG] at hq
     cases hb8:Nat.beq 4998 k with
     | true=>rw [hb8] at hq;cases hq;rw [jg] at hb8;subst hb8;exact ⟨_,rfl,rfl⟩
     | false =>
      rw [hb8] at hq
      cases Ld:Nat.beq 4999 k with
      | true=>rw [Ld] at hq;cases hq;rw [jg] at Ld;subst Ld;exact ⟨_,rfl,rfl⟩
      | false =>
       rw [Ld] at hq
       obtain ⟨e,he,hqv⟩:=Wi hq1 (hG xs) hq
       refine ⟨e,?_,hqv _⟩
       have n8:k≠4998:=fun x=>by rw [jg.2 x.symm] at hb8;cases hb8
       have n9:k≠4999:=fun x=>by rw [jg.2 x.symm] at Ld;cases Ld
       simp only [lkQ2 yT n8 n9,he]
    ·intro s1
     have:=Xt (h:=h1) (ps:=ps) (A:=A i) (vs:=vs) a.tmps hnp (fun p hp=>by have:=List.all_eq_true.1 hpl p hp;rw [Nat.blt_eq] at this;rw [hsz];exact this) (hA i).1 (by rw [← hlen,(hA i).1]) (hA i).2 (fun s2=>by
      have h2:=mV s2
      unfold bD.at bD.dv at h2
      rw [LC hdG] at h2
      exact (GR Γl s2).mono hle1 h2) hargs s1
     unfold bD.at bD.dv
     have hdp:(GR (Ov ps (A i) ++ Γl) s1).dep=none:=by
      have:Vk (Ov ps (A i) ++ Γl)=true:=by
       have:∀ (ps:List Nat) (A:List bD),qw A=true→Vk (Ov ps A ++ Γl)=true:=by
        intro ps
        induction ps with
        | nil=>intro A _;exact hdG
        | cons p ps ih =>
         intro A hA
         cases A with
         | nil=>exact hdG
         | cons f A =>
          simp only [qw,Bool.and_eq_true] at hA
          simp only [Ov,List.cons_append,Vk,Bool.and_eq_true]
          exact ⟨hA.1,ih A hA.2⟩
       exact this ps (A i) (hA i).2
      exact LC this
     rw [hdp]
     show (GR (Ov ps (A i) ++ Γl) s1).p h1 undef (Array.getD _ s1 undef)
     rw [hfold];exact this
    ·show Array.size _=n
     rw [hfold,Vl];exact hsz
   refine wpIn_mono (hround xs i s' j' hg κ' B'.e h1 L' l yT D _ w1 (by rw [Ox]) hact) ?_
   intro e1 a1 w2 hq2
   cases e1 <;> first | exact hq2.elim | skip
   obtain ⟨w3,hb3,hbd3⟩:=hq2
   refine ⟨w3,hb3,wpIn_mono hbd3 ?_⟩
   rintro e2 a2 w4 ⟨hx2,Γ2,Λ2,⟨h2,L2,hle2,hst4,hOw2,hsat2,_,_⟩,h8,h9,hQ2⟩
   obtain ⟨e8,hL8,rfl⟩:=hOw2 4998 _ h8
   obtain ⟨e9,hL9,rfl⟩:=hOw2 4999 _ h9
   obtain ⟨YU,hk21,hk22,hk23⟩:=Qy hOw2 hQ2 (hG s')
   have hkm2:∀ p ∈ YU,has ks p.1=true:=by
    intro p hp
    have:=RH (l:=YU) (k:=p.1)
    rw [hk21.trans (hks s'),Ko (k:=p.1) (e:=p.2) hp] at this
    exact this
   have fin:∀ (jump:Option Code) (r':Loop),r'={ TP yT with state:=if jump.isNone then .ready else .done,pending:=jump }→Ai j'=r'→jump.isNone=j'.isNone →
     ∃ v w',(Instr.endRound l jump).run P w4 = .ok v w'∧∃ h'' e',(Ending.returned v) = .returned (.bool j'.isNone)∧nO h1 h''∧St B' h'' (Sum.elim (fun _:Unit=>some e') L') w'∧((∀ k,(s',j').2=some k→k<js.length)∧∃ kes,ZH (Qq (s',j').1) kes∧GV ((4998,mO l (Ai (s',j').2)) :: (4999,oI D) :: kes)∧e'=sW ((4998,mO l (Ai (s',j').2)) :: (4999,oI D) :: kes)):=by
    intro jump r' hr' hro' hji
    obtain ⟨hl4,hst5⟩:=RG hst4 hL8 r'
    have hL5:∀ p ∈ ((4998,mO l r') :: (4999,oI D) :: YU),(set1 L2 4998 (mO l r')) p.1=some p.2:=by
     intro p hp
     rcases List.mem_cons.1 hp with rfl | hp
     ·simp [set1]
     ·rcases List.mem_cons.1 hp with rfl | hp
      ·simp [set1,hL9]
      ·have h1:=ne8 (hkm2 p hp)
       simp [set1,h1.2.1,hk23 p hp]
    have hdj5:=J5 hst5 hL5 (nd r' hk22)
    have hst6:=(hst5.sW 4997 hL5).one 4997 (e:=sW ((4998,mO l r') :: (4999,oI D) :: YU)) (by simp)
    refine ⟨.bool jump.isNone,w4.putObj l (.loop r'),by have:=run_endRound (P:=P) jump hl4;rw [hr'];exact this,h2,_,by rw [hji],hle2,hst6.ofE,hjlt,YU,hk22,?_,?_⟩
    ·show GV ((4998,mO l (Ai j')) :: _);rw [hro'];exact hdj5
    ·show _=sW ((4998,mO l (Ai j')) :: _);rw [hro']
   cases j' with
   | none =>
    have:e2 = .normal:=hx2.symm
    subst this
    obtain ⟨v,w5,hrun,hR⟩:=fin none yT (by rw [Ox];rfl) (by rw [Hz]) rfl
    exact ⟨v,w5,hrun,hR⟩
   | some k =>
    have hx2:js.getD k .normal=e2:=hx2
    obtain ⟨c,hc⟩:=Qz hjs (hjlt k rfl)
    obtain ⟨v,w5,hrun,hR⟩:=fin (some c) { TP yT with state:=.done,pending:=some c } rfl (by rw [Hz];simp only [];rw [hc];rfl) rfl
    rw [hx2] at hc
    cases e2 <;> cases hc
    ·exact ⟨v,w5,hrun,hR⟩
    ·exact ⟨v,w5,hrun,hR⟩
 -- the call
 have hpre:Oq ((5000,yE YE (s0,none)) :: IV) (fun k=>(toC ((5000,yE YE (s0,none)) :: IV) (4997 :: gI) k).bind (fun k=>if k=4997 then some (sW ((4998,mO l yT) :: (4999,oI D) :: kes)) else if (FO ((4998,mO l yT) :: (4999,oI D) :: kes) k).isSome then none else (set1 (set1 L 4999 (oI D)) 4998 (mO l yT)) k)) (TM fun k=>(Value.func (.yield l) #[] #[] :: cap).getD k undef):=by
  refine YQ (N:=[]) (xs:=[]) (cap:=Value.func (.yield l) #[] #[] :: cap) (h:=h) (a:=a) (post:=Po.to (yE YE (s,j)) :: Hg) (L:=fun k=>if k=4997 then some (sW ((4998,mO l yT) :: (4999,oI D) :: kes)) else if (FO ((4998,mO l yT) :: (4999,oI D) :: kes) k).isSome then none else (set1 (set1 L 4999 (oI D)) 4998 (mO l yT)) k) trivial (vF.gh rfl Gh.yE (fun q hq=>by cases hq;exact Gh.yE) hIk) ⟨⟨_,rfl,?_⟩,?_⟩ (fun k gg hk=>by rw [hk];rfl) (hcc _)
  ·subst hYE
   exact ⟨fun k hk=>(by cases hk),kes,hk2,(by rw [Hz];exact hdj),(by rw [Hz])⟩
  ·have:∀ (pre:List (Nat×gQ)) (gs:List Nat),Xq Λ (TL pre gs)→(∀ k,has gs k=true→has gI k=true)→UQ (TL pre gs) (fun k=>if k=4997 then some (sW ((4998,mO l yT) :: (4999,oI D) :: kes)) else if (FO ((4998,mO l yT) :: (4999,oI D) :: kes) k).isSome then none else (set1 (set1 L 4999 (oI D)) 4998 (mO l yT)) k) a:=by
    intro pre
    induction pre with
    | nil=>intro gs _ _;trivial
    | cons x r ih =>
     obtain ⟨k0,q0⟩:=x
     intro gs hq hm
     cases gs with
     | nil=>trivial
     | cons g0 gs =>
      refine ⟨?_,ih gs hq.2 (fun k hk=>hm k (by simp only [has,hk,Bool.or_true]))⟩
      obtain ⟨e,he,hqe⟩:=rP g0 q0 hq.1
      have hg0:has gI g0=true:=hm g0 (by simp only [has,Nat.beq_refl,Bool.true_or])
      have hne:=ne8I hg0
      have hk0:has ks g0=false:=by
       cases hx:has ks g0 with
       | false=>rfl
       | true=>exact (hdisj g0 hx hg0).elim
      refine ⟨e,?_,hqe⟩
      simp only [lkQ yT hk2 hk0 hne.2.1 hne.2.2]
      simp [hne.1,set1,hne.2.1,hne.2.2,he]
   exact this IV gI hI (fun k hk=>hk)
 refine (callsG (hit YE) (hcc _) hst3 (by simp [hcap.1]) hpre ?_).mono ?_
 ·intro j1 g1 u hg1 hu
  cases j1 with
  | zero=>cases hg1;cases hu;exact ⟨l,rfl,hyl⟩
  | succ j1=>exact hcap.2 j1 g1 u (by simpa using hg1) (by simpa using hu)
 rintro en w5 ⟨v,h5,E5,rfl,hle5,hst5,hpost,_⟩
 obtain ⟨⟨e5,hE5,hye5⟩,hpostI⟩:=hpost
 have hye5:YE (s,j) e5:=hye5
 subst hYE
 obtain ⟨hjlt,kes5,hq5,hd5,rfl⟩:=hye5
 have h47:Eh ((5000,yE (fun x e=>(∀ k,x.2=some k→k<js.length)∧∃ kes,ZH (Qq x.1) kes∧GV ((4998,mO l (Ai x.2)) :: (4999,oI D) :: kes)∧e=sW ((4998,mO l (Ai x.2)) :: (4999,oI D) :: kes)) (s0,none)) :: IV) (4997 :: gI) 4997=some 5000:=rfl
 have hst6:=hst5.splitK (l:=(4998,mO l (Ai j)) :: (4999,oI D) :: kes5) (g:=4997) (by simp only [h47];exact hE5) hd5
 obtain ⟨UG,hst7⟩:=RG hst6 (k:=4998) (l:=l) (r:=Ai j) rfl { Ai j with state:=.exhausted }
 have hbusy:(Ai j).state ≠ .busy:=by
  rw [Hz]
  cases j with
  | none=>rw [Ox];simp
  | some k=>simp
 have hend:=run_endLoop (P:=P) UG hbusy
 have hAtE:At (B.d (mark D)) h0 (GR Γl) (Ej ((4999,JQ D) :: (Qq s ++ Lu IV gI Hg))) F n { a with defers:=[mark w.heap.size] ++ a.defers } (w5.putObj l (.loop { Ai j with state:=.exhausted })):=by
  refine ⟨h5,_,hle.trans hle5,hst7.toD,?_,?_,hsz,by rw [hD,hdf];rfl⟩
  ·intro k q hq
   simp only [Ej,VG] at hq
   cases Ld:Nat.beq 4999 k with
   | true=>rw [Ld] at hq;cases hq;rw [jg] at Ld;subst Ld;exact ⟨oI D,rfl,rfl⟩
   | false =>
    rw [Ld,cond_false] at hq
    have hq:Ej (Qq s ++ Lu IV gI Hg) k=some q:=hq
    rw [Vj] at hq
    cases hm:Ej (Qq s) k with
    | some q1 =>
     rw [hm] at hq;cases hq
     have hhk:=Wj hm
     rw [hks s] at hhk
     have hne:=ne8 hhk
     obtain ⟨e,he,hqv⟩:=Wi hq5 (hG s) hm
     refine ⟨e,?_,hqv _⟩
     simp only [set1,hne.2.1,if_false,lkQ2 _ hne.2.1 hne.2.2,he]
    | none =>
     rw [hm] at hq
     have hq:Ej (Lu IV gI Hg) k=some q:=hq
     have hgk:=YT (Wj hq)
     have hne:=ne8I hgk
     have hk0:has ks k=false:=by
      cases hx:has ks k with
      | false=>rfl
      | true=>exact (hdisj k hx hgk).elim
     have Oy:=hcc (yE (fun x e=>(∀ k,x.2=some k→k<js.length)∧∃ kes,ZH (Qq x.1) kes∧GV ((4998,mO l (Ai x.2)) :: (4999,oI D) :: kes)∧e=sW ((4998,mO l (Ai x.2)) :: (4999,oI D) :: kes)) (s0,none))
     simp only [FP,Bool.and_eq_true] at Oy
     obtain ⟨e,k',h1,h2,h3⟩:=YS hpostI hIk Oy.2 hq
     refine ⟨e,?_,h3 _⟩
     have n7:Nat.beq 4997 k=false:=by rw [Bool.eq_false_iff,Ne,jg];exact fun x=>hne.1 x.symm
     simp only [set1,hne.2.1,if_false,lkQ _ hq5 hk0 hne.2.1 hne.2.2,hne.1,Eh,n7,cond_false,h1,h2]
  ·intro s1
   have h2:=(GR Γl s1).mono hle5 (mV s1)
   unfold bD.at bD.dv at h2 ⊢
   rw [LC hdG] at h2 ⊢
   exact h2
 rw [hl]
 cases j with
 | none=>exact ⟨none,_,(by rw [hend];congr 1;rw [Hz,Ox]),hdone D _ _ hAtE⟩
 | some k =>
  obtain ⟨c,hc⟩:=Qz hjs (hjlt k rfl)
  exact ⟨some c,_,(by rw [hend];congr 1;rw [Hz];exact hc),jJv hc (hdone D _ _ hAtE)⟩
end
end Go.KB
