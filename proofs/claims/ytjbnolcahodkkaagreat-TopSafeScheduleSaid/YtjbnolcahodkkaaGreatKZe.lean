/- Functions that use what lies at known places: entries under keys that are slots, or no slots. Ranges over maps that are owned: whatever the order. Ranges over functions: the iterator, yield, the rounds. The rule on ranges over functions. No condition. -/
import Derived.Test.YtjbnolcahodkkaaGreatKZd
import Derived.Maps.RangeRun
import Derived.RangeFuncCalls
import Derived.RangeFuncBound
namespace Go.KB
variable {P:Program} {o:Oper} {N:List (Nat×bF)} {α β γ:Type}
def WI (vs:Nat→Value) (k:Nat):Value:=bif Nat.ble 5000 k then undef else vs k
def RQ:List (Nat×gG)→(Nat→Option iM)→(Nat→Value)→Prop
 | [],_,_=>True
 | (k,q) :: r,E,g=>(∃ e,E k=some e∧q (g k) e)∧RQ r E g
inductive Po where
 | keep
 | to (q:gG)
 | gone
def JI:List (Nat×gG)→List Po→(Nat→Option iM)→(Nat→Value)→Prop
 | (k,q0) :: r,p :: ps,E,g=>(match p with | .to q=>∃ e,E k=some e∧q (g k) e | .keep=>∃ e,E k=some e∧q0 (g k) e | .gone=>True)∧JI r ps E g
 | _,_,_,_=>True
def jXk (own:Option gG) (E:Nat→Option iM) (u:Value):Prop:=match own with | some q=>∃ e,E 9999=some e∧q u e | none=>True
def kY (P:Program) (f:FuncId) (args:List bF) (pre:List (Nat×gG)) (post:List Po) (own:Option gG) (res:bF):Prop :=
 ∀ (κ:Type) (B:Base) (L:κ→Option iM) (h:H) (w:World) (vs:List Value) (E:Nat→Option iM),St B h (Sum.elim E L) w→args.length=vs.length→RQ pre E (WI fun k=>vs.getD k undef) →
  (∀ (j:Nat) (g:bF) (u:Value),args[j]? = some g→vs[j]? = some u→g.p h undef u) →
  Calls P f vs.toArray w (fun e w'=>∃ u h' E',e = .returned u∧og h h'∧St B h' (Sum.elim E' L) w'∧JI pre post E' (WI fun k=>vs.getD k undef)∧jXk own E' u∧res.p h' undef u)
def Ou (P:Program) (fn:Func) {κ:Type} (B:Base) (h0:H) (F:κ→Option iM) (vM:Nat→Value) (pre:List (Nat×gG)) (post:List Po) (own:Option gG) (res:bF):Exit→Act→World→Prop :=
 fun e a w=>B.df=[]→Ns P fn (fun e w'=>∃ u h' E',e = .returned u∧og h0 h'∧St B h' (Sum.elim E' F) w'∧JI pre post E' (WI vM)∧jXk own E' u∧res.p h' undef u) e a w
theorem RQ.get {E:Nat→Option iM} {g:Nat→Value}:∀ {pre:List (Nat×gG)},RQ pre E g→∀ {k q},HY pre k=some q→∃ e,E k=some e∧q (g k) e:=by
 intro pre
 induction pre with
 | nil=>intro _ k q h;cases h
 | cons x r ih =>
  obtain ⟨k0,q0⟩:=x
  intro h k q hq
  simp only [HY,Yw] at hq
  cases hk:Nat.beq k0 k with
  | true=>rw [hk] at hq;cases hq;rw [jL] at hk;subst hk;exact h.1
  | false=>rw [hk] at hq;exact ih h.2 hq
def pmG (pm:List Nat) (vM:Nat→Value):List (Nat×bF):=pm.map fun i=>(i,jh (vM i))
theorem lkF_pm {Γ:List (Nat×bF)} {vM:Nat→Value}:∀ {pm:List Nat} {s:Nat},U5 (pmG pm vM ++ Γ) s=jh (vM s)∨U5 (pmG pm vM ++ Γ) s=U5 Γ s:=by
 intro pm
 induction pm with
 | nil=>intro s;exact .inr rfl
 | cons i r ih =>
  intro s
  show (bif Nat.beq i s then jh (vM i) else U5 (pmG r vM ++ Γ) s)=_∨(bif Nat.beq i s then jh (vM i) else U5 (pmG r vM ++ Γ) s)=_
  cases hk:Nat.beq i s with
  | true=>rw [jL] at hk;subst hk;exact .inl rfl
  | false=>exact ih
theorem RS {vs:List Value} {m:Nat} (k:Nat):Act.gt { tmps:=vs.toArray ++ Array.replicate m undef,defers:=[] } k=vs.getD k undef:=by
  simp only [Act.gt,Array.getD_eq_getD_getElem?,List.getD_eq_getElem?_getD]
  by_cases hk:k<vs.length
  · rw [Array.getElem?_append_left (by simpa using hk)];simp
  · rw [Array.getElem?_append_right (by simp; omega)]
    simp only [Array.getElem?_replicate,List.getElem?_eq_none (Nat.le_of_not_lt hk)]
    split <;> rfl
theorem eu {n:Nat} {f:FuncId} {fn:Func} {c:Code} {args:List bF} {pre:List (Nat×gG)} {post:List Po} {own:Option gG} {res:bF} (pm:List Nat) (hf:P.funcs[f]? = some fn) (hb:fn.body=some c) (hn:fn.ntmps=n)
  (yC:(Nat.ble args.length n&&Nat.ble n 5000&&rO args)=true)
  (hwp:∀ (κ:Type) (B:Base) (h0:H) (F:κ→Option iM) (a:Act) (w:World) (vM:Nat→Value),At B h0 (KZ (pmG pm vM ++ Nq 0 args)) (HY pre) F n a w→c.sF none P (Ou P fn B h0 F vM pre post own res) a w):kY P f args pre post own res:=by
 intro κ B L h w vs E hst hl hpre hargs
 simp only [Bool.and_eq_true,Nat.ble_eq] at yC
 obtain ⟨⟨hlen,hn5⟩,hdp⟩:=yC
 have FK:=qj hdp
 refine FM rfl hf hb (hwp _ B.e h L _ w (fun k=>vs.getD k undef) ⟨h,E,og.refl h,hst.toE,?_,?_,?_,rfl⟩) (fun _ _ ⟨v,h',x,he,hl,hs,hp⟩=>⟨v,h',x,he,hl,hs.ofE,hp⟩)
 ·intro s q hs
  obtain ⟨e,he,hq⟩:=hpre.get hs
  refine ⟨e,he,?_⟩
  rw [RS]
  unfold WI at hq
  cases h5:Nat.ble 5000 s with
  | false=>rw [h5] at hq;exact hq
  | true =>
   rw [h5] at hq
   rw [Nat.ble_eq] at h5
   rw [List.getD_eq_getElem?_getD,List.getElem?_eq_none (by omega)]
   exact hq
 ·intro s
  rcases lkF_pm (pm:=pm) (Γ:=Nq 0 args) (vM:=fun k=>vs.getD k undef) (s:=s) with h1 | h1
  ·show (U5 (pmG pm _ ++ Nq 0 args) s).at _ _ _
   rw [h1];exact RS s
  ·show (U5 (pmG pm _ ++ Nq 0 args) s).at _ _ _
   rw [h1]
   rcases MK args 0 s with h1 | ⟨j,g,h1,h2,h3⟩
   ·rw [h1];exact trivial
   ·rw [h3]
    have hj:=(List.getElem?_eq_some_iff.1 h1).1
    have hv:vs[j]? = some vs[j]:=List.getElem?_eq_getElem (by omega)
    have:=hargs j g _ h1 hv
    unfold bF.at bF.dv
    rw [FK g (List.mem_of_getElem? h1),h2,Nat.zero_add,RS,List.getD_eq_getElem?_getD,hv]
    exact this
 ·simp;omega
section
variable {κ:Type} {B:Base} {h h0:H} {L:Nat→Option iM} {Γ:Ctx} {Λ:Own} {F:κ→Option iM} {n:Nat} {a:Act} {w:World} {vM:Nat→Value} {pre:List (Nat×gG)} {post:List Po} {res:bF}
def Gh (q:gG):Prop:=∀ v v' e,q v e→q v' e
theorem Gh.at {q:gG} {sv:Value}:Gh (iI q sv):=fun _ _ _ h=>h
def PostA (Γ:Ctx) (Λ:Own) (vM:Nat→Value):List (Nat×gG)→List Po→Prop
 | (k,q0) :: r,p :: ps=>(match p with | .to q=>Λ k=some q∧((Nat.ble 5000 k=true∧Gh q)∨(Nat.ble 5000 k=false∧Γ k=jh (vM k))) | .keep=>Λ k=some q0∧((Nat.ble 5000 k=true∧Gh q0)∨(Nat.ble 5000 k=false∧Γ k=jh (vM k))) | .gone=>True)∧PostA Γ Λ vM r ps
 | _,_=>True
theorem iH {x:Option gG} {b:Bool} {q:gG} {sv:Value} {X:Prop} (e:(x,b)=(some (iI q sv),true)):x=some (iI q sv)∧((b=true∧Gh (iI q sv))∨X):=⟨congrArg Prod.fst e,.inl ⟨congrArg Prod.snd e,Gh.at⟩⟩
theorem PostA.ok {E:Nat→Option iM} (yx:Qb Λ L a) (qV:Sat Γ h a):∀ {pre:List (Nat×gG)} {post:List Po},PostA Γ Λ vM pre post→(∀ k q,(k,q) ∈ pre→E k=L k)→JI pre post E (WI vM):=by
 intro pre
 induction pre with
 | nil=>intro post _ _;cases post <;> trivial
 | cons x r ih =>
  obtain ⟨k,q0⟩:=x
  intro post hp hE
  cases post with
  | nil=>trivial
  | cons p ps =>
   refine ⟨?_,ih hp.2 (fun k q hk=>hE k q (List.mem_cons_of_mem _ hk))⟩
   have key:∀ q,Λ k=some q∧((Nat.ble 5000 k=true∧Gh q)∨(Nat.ble 5000 k=false∧Γ k=jh (vM k)))→∃ e,E k=some e∧q (WI vM k) e:=by
    rintro q ⟨h1,h2⟩
    obtain ⟨e,hL,hq⟩:=yx k q h1
    refine ⟨e,by rw [hE k q0 (by simp)];exact hL,?_⟩
    unfold WI
    rcases h2 with ⟨h5,hg⟩ | ⟨h5,hf⟩
    ·exact hg _ _ _ hq
    ·rw [h5,cond_false]
     have:=qV k
     rw [hf] at this
     have hv:a.gt k=vM k:=this
     rw [← hv];exact hq
   cases p with
   | gone=>trivial
   | to q=>exact key q hp.1
   | keep=>exact key q0 hp.1
def WJ (P:Program) (Γ:Ctx) (Λ:Own) (fn:Func) (res:bF):Prop :=
 ∀ (κ:Type) (B:Base) (F:κ→Option iM) (h:H) (a:Act) (w:World),∀ L,St B h (Sum.elim L F) w→Qb Λ L a→Sat Γ h a→∃ v,(results fn a.tmps).run P w = .ok v w∧res.p h undef v
theorem VZ {fn:Func} (hr:fn.results = #[]):WJ P Γ Λ fn XK:=fun _ _ _ _ a w _ _ _ _=>⟨.tuple #[],by simp [results,hr],rfl⟩
theorem jS {fn:Func} {rv:ResultVar} {g:bF} (hr:fn.results = #[rv]) (h1:TI P Γ Λ rv g):WJ P Γ Λ fn g:=fun _ B F h a w L hst yx qV=>by
 obtain ⟨u,hu,hp⟩:=h1 _ B F h a w L hst yx qV
 exact ⟨u,by rw [Ee];simp [hr,hu],hp⟩
theorem PZ {fn:Func} {rv rv':ResultVar} {g g':bF} (hr:fn.results = #[rv,rv']) (h1:TI P Γ Λ rv g) (h2:TI P Γ Λ rv' g'):WJ P Γ Λ fn (Nw g g'):=fun _ B F h a w L hst yx qV=>by
 obtain ⟨u,hu,hp⟩:=h1 _ B F h a w L hst yx qV
 obtain ⟨u',hu',hp'⟩:=h2 _ B F h a w L hst yx qV
 exact ⟨.tuple #[u,u'],by rw [Ee];simp [hr,hu,hu'],u,u',rfl,hp,hp'⟩
theorem mP {fn:Func} (hA:PostA Γ Λ vM pre post) (hR:WJ P Γ Λ fn res) (hAt:At B h0 Γ Λ F n a w):Ou P fn B h0 F vM pre post none res .ret a w:=by
 obtain ⟨h,L,hl,hst,yx,qV,_,hdf⟩:=hAt
 obtain ⟨u,hu,hp⟩:=hR _ B F h a w L hst yx qV
 exact fun hB=>.inl ⟨hdf.trans hB,u,hu,u,h,L,rfl,hl,hst,hA.ok yx qV (fun _ _ _=>rfl),trivial,hp⟩
theorem jQh {fn:Func} (hA:PostA Γ Λ vM pre post) (hR:WJ P Γ Λ fn res) (hAt:At B h0 Γ Λ F n a w):Ou P fn B h0 F vM pre post none res .normal a w:=mP hA hR hAt
end
def jXw (C:List bF) (h:H) (cap:List Value):Prop:=cap.length=C.length∧∀ (j:Nat) (g:bF) (u:Value),C[j]? = some g→cap[j]? = some u→g.p h undef u
def oN (f:FuncId) (C:List bF):bF:=⟨none,fun h _ v=>∃ cap:List Value,v = .func (.func f) #[] cap.toArray∧jXw C h cap,fun hl ⟨cap,e,h1,k⟩=>⟨cap,e,h1,fun j g u hg hu=>g.mono hl (k j g u hg hu)⟩⟩
theorem Ap {f:FuncId} {C:List bF} {xs:Array Operand} (hd:rO C=true) (ho:o.op = .makeFunc (.func f) #[] xs) (hargs:zn N C xs.toList):eG P o N [] (oN f C) [] :=
 eG.xA fun h a w _ hn=>by
  have hdp:=qj hd
  obtain ⟨hlen,hall⟩:=hargs.spec
  refine ⟨.func (.func f) #[] (xs.map a.eval),by simp [execOp,ho,Instr.makeFunc],xs.toList.map a.eval,by congr 1;apply Array.ext';simp,by rw [List.length_map];exact hlen.symm,fun j g u hg hu=>?_⟩
  rw [List.getElem?_map] at hu
  cases hx:xs.toList[j]? with
  | none=>rw [hx] at hu;cases hu
  | some x =>
   rw [hx] at hu;cases hu
   have:=hall j g x hg hx h a hn
   unfold bF.dv at this
   rw [hdp g (List.mem_of_getElem? hg)] at this
   exact this
def Ov (P:Program) (N:List (Nat×bF)) (o:Oper) (xs:List Operand) (f:FuncId) (C:List bF):Prop :=
 ∀ (h:H) (a:Act) (w:World),Iu N h a→∃ cap:List Value,jXw C h cap∧(execOp a.eval o).run P w = .ok (.enter f (xs.map a.eval ++ cap).toArray) w
theorem fC {f:FuncId} {fn:Func} {xs:Array Operand} {ts:Array TypeId} (hf:P.funcs[f]? = some fn) (hbd:xY fn=true) (ho:o.op = .call { callee:=.value (.func f),args:=xs,argTypes:=ts }):Ov P N o xs.toList f []:=by
 intro h a w _
 simp only [xY,Bool.and_eq_true,Bool.not_eq_true'] at hbd
 have hbody:fn.body≠none:=by
  intro hx;rw [hx] at hbd;cases hbd.1
 have hname:fn.name ≠ "runtime.NumGoroutine":=by simpa using hbd.2
 refine ⟨[],⟨rfl,fun j g u hg=>by simp at hg⟩,?_⟩
 have e:(xs.toList.map a.eval ++ []).toArray=xs.map a.eval:=by apply Array.ext';simp
 rw [e]
 simp [execOp,ho,resolve,Act.eval,Deferred.ofValue,invoke,callFunc,hf,hname,hbody]
theorem sJ {f:FuncId} {fn:Func} {C:List bF} {z:Operand} {xs:Array Operand} {ts:Array TypeId} (hf:P.funcs[f]? = some fn) (hbd:xY fn=true) (ho:o.op = .call { callee:=.value z,args:=xs,argTypes:=ts }) (hz:di N z (oN f C)):Ov P N o xs.toList f C:=by
 intro h a w hn
 simp only [xY,Bool.and_eq_true,Bool.not_eq_true'] at hbd
 have hbody:fn.body≠none:=by
  intro hx;rw [hx] at hbd;cases hbd.1
 have hname:fn.name ≠ "runtime.NumGoroutine":=by simpa using hbd.2
 obtain ⟨cap,hv,hc⟩:=hz h a hn
 refine ⟨cap,hc,?_⟩
 have e:(xs.toList.map a.eval ++ cap).toArray=xs.map a.eval ++ cap.toArray:=by apply Array.ext';simp
 rw [e]
 simp [execOp,ho,resolve,hv,Deferred.ofValue,invoke,callFunc,hf,hname,hbody]
def toC:List (Nat×gG)→List Nat→Nat→Option Nat
 | (k,_) :: r,g :: gs,x=>bif Nat.beq k x then some g else toC r gs x
 | _,_,_=>none
def GH:List (Nat×gG)→List Nat→Nat→Option Nat
 | (k,_) :: r,g :: gs,x=>bif Nat.beq g x then some k else GH r gs x
 | _,_,_=>none
def hasK:List (Nat×gG)→Nat→Bool
 | [],_=>false
 | (k,_) :: r,x=>Nat.beq k x||hasK r x
def Jc:List (Nat×gG)→List Nat→Bool
 | (k,_) :: r,g :: gs=>!(has gs g) && !(hasK r k) && !(Nat.beq k 9999)&&Jc r gs
 | [],[]=>true
 | _,_=>false
theorem ZC:∀ {pre:List (Nat×gG)} {gs:List Nat} {k g:Nat},toC pre gs k=some g→has gs g=true∧hasK pre k=true:=by
 intro pre
 induction pre with
 | nil=>intro gs k g h;cases gs <;> cases h
 | cons x r ih =>
  obtain ⟨k0,q⟩:=x
  intro gs k g h
  cases gs with
  | nil=>cases h
  | cons g0 gs =>
   simp only [toC] at h
   cases hk:Nat.beq k0 k with
   | true=>rw [hk] at h;cases h;simp [has,hasK,hk,Nat.beq_refl]
   | false=>rw [hk] at h;have:=ih h;simp [has,hasK,this.1,this.2]
theorem U6:∀ {pre:List (Nat×gG)} {gs:List Nat} {k g:Nat},GH pre gs g=some k→has gs g=true∧hasK pre k=true:=by
 intro pre
 induction pre with
 | nil=>intro gs k g h;cases gs <;> cases h
 | cons x r ih =>
  obtain ⟨k0,q⟩:=x
  intro gs k g h
  cases gs with
  | nil=>cases h
  | cons g0 gs =>
   simp only [GH] at h
   cases hk:Nat.beq g0 g with
   | true=>rw [hk] at h;cases h;simp [has,hasK,hk,Nat.beq_refl]
   | false=>rw [hk] at h;have:=ih h;simp [has,hasK,this.1,this.2]
theorem jXy:∀ {pre:List (Nat×gG)} {gs:List Nat} {k g:Nat},Jc pre gs=true→toC pre gs k=some g→GH pre gs g=some k:=by
 intro pre
 induction pre with
 | nil=>intro gs k g _ h;cases gs <;> cases h
 | cons x r ih =>
  obtain ⟨k0,q⟩:=x
  intro gs k g hc h
  cases gs with
  | nil=>cases h
  | cons g0 gs =>
   simp only [Jc,Bool.and_eq_true,Bool.not_eq_true'] at hc
   simp only [toC] at h
   simp only [GH]
   cases hk:Nat.beq k0 k with
   | true=>rw [hk] at h;cases h;rw [jL] at hk;rw [hk,Nat.beq_refl];rfl
   | false =>
    rw [hk] at h
    have h1:=ZC h
    have h2:Nat.beq g0 g=false:=by
     rw [Bool.eq_false_iff,Ne,jL];intro e;subst e;rw [h1.1] at hc;exact absurd hc.1.1.1 (by simp)
    rw [h2];exact ih hc.2 h
theorem U7:∀ {pre:List (Nat×gG)} {gs:List Nat} {k g:Nat},Jc pre gs=true→GH pre gs g=some k→toC pre gs k=some g:=by
 intro pre
 induction pre with
 | nil=>intro gs k g _ h;cases gs <;> cases h
 | cons x r ih =>
  obtain ⟨k0,q⟩:=x
  intro gs k g hc h
  cases gs with
  | nil=>cases h
  | cons g0 gs =>
   simp only [Jc,Bool.and_eq_true,Bool.not_eq_true'] at hc
   simp only [GH] at h
   simp only [toC]
   cases hk:Nat.beq g0 g with
   | true=>rw [hk] at h;cases h;rw [jL] at hk;rw [hk,Nat.beq_refl];rfl
   | false =>
    rw [hk] at h
    have h1:=U6 h
    have h2:Nat.beq k0 k=false:=by
     rw [Bool.eq_false_iff,Ne,jL];intro e;subst e;rw [h1.2] at hc;exact absurd hc.1.1.2 (by simp)
    rw [h2];exact ih hc.2 h
theorem jJw:∀ {pre:List (Nat×gG)} {gs:List Nat},Jc pre gs=true→hasK pre 9999=false:=by
 intro pre
 induction pre with
 | nil=>intro gs _;rfl
 | cons x r ih =>
  obtain ⟨k0,q⟩:=x
  intro gs hc
  cases gs with
  | nil=>cases hc
  | cons g0 gs =>
   simp only [Jc,Bool.and_eq_true,Bool.not_eq_true'] at hc
   simp only [hasK,hc.1.2,ih hc.2,Bool.or_self]
def WH:List (Nat×gG)→List Nat→List (Nat×gG)
 | (_,q) :: r,g :: gs=>(g,q) :: WH r gs
 | _,_=>[]
def Np:List Nat→List Po→Oa
 | g :: gs,.to q :: ps=>(g,some q) :: Np gs ps
 | g :: gs,.gone :: ps=>(g,none) :: Np gs ps
 | _ :: gs,.keep :: ps=>Np gs ps
 | _,_=>[]
def U4 (own:Option gG) (d:Option Nat):Oa:=match own,d with | some q,some d=>[(d,some q)] | _,_=>[]
def yU (N:List (Nat×bF)) (xs:List Operand):List (Nat×gG)→List Po→List Nat→Prop
 | (k,q) :: r,p :: ps,g :: gs=>((Nat.ble 5000 k=true∧Gh q∧(∀ q',p = .to q'→Gh q'))∨(Nat.ble 5000 k=false∧∃ x,xs[k]? = some x∧di N x (Uh g)))∧yU N xs r ps gs
 | [],[],[]=>True
 | _,_,_=>False
theorem yU.gh {xs:List Operand} {k g:Nat} {q:gG} {p:Po} {r ps gs} (h5:Nat.ble 5000 k=true) (h1:Gh q) (h2:∀ q',p = .to q'→Gh q') (h:yU N xs r ps gs):yU N xs ((k,q) :: r) (p :: ps) (g :: gs):=⟨.inl ⟨h5,h1,h2⟩,h⟩
def Po.nt:Po→Bool
 | .to _=>false
 | _=>true
theorem yU.gk {xs:List Operand} {k g:Nat} {q:gG} {sv:Value} {p:Po} {r ps gs} (e:(Nat.ble 5000 k,p.nt)=(true,true)) (h:yU N xs r ps gs):yU N xs ((k,iI q sv) :: r) (p :: ps) (g :: gs):=.gh (congrArg Prod.fst e) Gh.at (fun q' h2=>by have:=congrArg Prod.snd e;rw [h2] at this;cases this) h
theorem yU.slot {xs:List Operand} {k g:Nat} {q:gG} {p:Po} {x:Operand} {r ps gs} (h5:Nat.ble 5000 k=false) (h1:xs[k]? = some x) (h2:di N x (Uh g)) (h:yU N xs r ps gs):yU N xs ((k,q) :: r) (p :: ps) (g :: gs):=⟨.inr ⟨h5,x,h1,h2⟩,h⟩
theorem JM:∀ {gs:List Nat} {post:List Po} {s:Nat},has gs s=false→uP (Np gs post) s=none:=by
 intro gs
 induction gs with
 | nil=>intro post s _;cases post <;> rfl
 | cons g gs ih =>
  intro post s h
  cases post with
  | nil=>rfl
  | cons p ps =>
   simp only [has,Bool.or_eq_false_iff] at h
   cases p <;> simp only [Np,uP,h.1,cond_false] <;> exact ih h.2
theorem has_of:∀ {pre:List (Nat×gG)} {gs:List Nat} {s:Nat},Jc pre gs=true→GH pre gs s=none→has gs s=false:=by
 intro pre
 induction pre with
 | nil=>intro gs s hc h;cases gs with
  | nil=>rfl
  | cons _ _=>cases hc
 | cons x r ih =>
  obtain ⟨k0,q⟩:=x
  intro gs s hc h
  cases gs with
  | nil=>rfl
  | cons g gs =>
   simp only [Jc,Bool.and_eq_true,Bool.not_eq_true'] at hc
   simp only [GH] at h
   cases hb:Nat.beq g s with
   | true=>rw [hb] at h;cases h
   | false=>rw [hb] at h;simp only [has,hb,Bool.false_or];exact ih hc.2 h
section
variable {L:Nat→Option iM} {h:H} {a:Act} {xs:List Operand} {cap:List Value}
theorem jXu {E:Nat→Option iM} (hn:Iu N h a):∀ {pre:List (Nat×gG)} {post:List Po} {gs:List Nat},yU N xs pre post gs→YC (WH pre gs) L a→(∀ k g,toC pre gs k=some g→E k=L g)→Jc pre gs=true→RQ pre E (WI fun k=>(xs.map a.eval ++ cap).getD k undef):=by
 intro pre
 induction pre with
 | nil=>intro post gs _ _ _ _;trivial
 | cons x r ih =>
  obtain ⟨k,q⟩:=x
  intro post gs hk hK hE hc
  cases post with
  | nil=>cases gs <;> exact hk.elim
  | cons p ps=>cases gs with
   | nil=>exact hk.elim
   | cons g gs =>
    obtain ⟨h1,h2⟩:=hk
    obtain ⟨⟨e,hL,hq⟩,hK⟩:=hK
    have hc0:=hc
    simp only [Jc,Bool.and_eq_true,Bool.not_eq_true'] at hc
    refine ⟨⟨e,by rw [hE k g (by simp [toC,Nat.beq_refl])];exact hL,?_⟩,ih h2 hK (fun k' g' hk'=>hE k' g' ?_) hc.2⟩
    ·unfold WI
     rcases h1 with ⟨h5,hg,_⟩ | ⟨h5,y,hy,hyx⟩
     ·exact hg _ _ _ hq
     ·rw [h5,cond_false]
      have hv:a.eval y=a.gt g:=hyx h a hn
      have:(xs.map a.eval ++ cap).getD k undef=a.eval y:=by
       have hlt:=(List.getElem?_eq_some_iff.1 hy).1
       rw [List.getD_eq_getElem?_getD,List.getElem?_append_left (by simpa using hlt),List.getElem?_map,hy];rfl
      show q ((xs.map a.eval ++ cap).getD k undef) e
      rw [this,hv];exact hq
    ·have h3:=ZC hk'
     have:Nat.beq k k'=false:=by
      rw [Bool.eq_false_iff,Ne,jL];intro e;subst e;rw [h3.2] at hc;exact absurd hc.1.1.2 (by simp)
     simp only [toC,this,cond_false];exact hk'
theorem upd_of {E:Nat→Option iM} {L':Nat→Option iM} {a':Act} (hn:Iu N h a) {s:Nat} (ha:a'.gt s=a.gt s):∀ {pre:List (Nat×gG)} {post:List Po} {gs:List Nat},yU N xs pre post gs→JI pre post E (WI fun k=>(xs.map a.eval ++ cap).getD k undef) →
  Jc pre gs=true→∀ k,GH pre gs s=some k→L' s=E k →
  (∃ q,uP (Np gs post) s=some (some q)∧∃ e,L' s=some e∧q (a'.gt s) e)∨uP (Np gs post) s=some none∨(uP (Np gs post) s=none∧∃ q,(s,q) ∈ WH pre gs∧∃ e,L' s=some e∧q (a'.gt s) e):=by
 intro pre
 induction pre with
 | nil=>intro post gs _ _ _ k hk;cases gs <;> cases hk
 | cons x r ih =>
  obtain ⟨k0,q⟩:=x
  intro post gs hk hp hc k hof hL
  cases post with
  | nil=>cases gs <;> exact hk.elim
  | cons p ps=>cases gs with
   | nil=>exact hk.elim
   | cons g gs =>
    obtain ⟨h1,h2⟩:=hk
    simp only [Jc,Bool.and_eq_true,Bool.not_eq_true'] at hc
    simp only [GH] at hof
    cases hb:Nat.beq g s with
    | false =>
     rw [hb] at hof
     have hlk:uP (Np (g :: gs) (p :: ps)) s=uP (Np gs ps) s:=by
      cases p <;> simp [Np,uP,hb]
     rw [hlk]
     rcases ih h2 hp.2 hc.2 k hof hL with h | h | ⟨h3,q',h4,h5⟩
     ·exact .inl h
     ·exact .inr (.inl h)
     ·exact .inr (.inr ⟨h3,q',List.mem_cons_of_mem _ h4,h5⟩)
    | true =>
     rw [hb] at hof;cases hof
     rw [jL] at hb;subst hb
     have key:∀ q':gG,(Nat.ble 5000 k0=true→Gh q')→(∃ e,E k0=some e∧q' (WI (fun k=>(xs.map a.eval ++ cap).getD k undef) k0) e)→∃ e,L' g=some e∧q' (a'.gt g) e:=by
      rintro q' hgh ⟨e,he,hq⟩
      refine ⟨e,by rw [hL];exact he,?_⟩
      unfold WI at hq
      rcases h1 with ⟨h5,_,_⟩ | ⟨h5,y,hy,hyx⟩
      ·exact hgh h5 _ _ _ hq
      ·rw [h5,cond_false] at hq
       have hv:a.eval y=a.gt g:=hyx h a hn
       have:(xs.map a.eval ++ cap).getD k0 undef=a.eval y:=by
        have hlt:=(List.getElem?_eq_some_iff.1 hy).1
        rw [List.getD_eq_getElem?_getD,List.getElem?_append_left (by simpa using hlt),List.getElem?_map,hy];rfl
       have hq:q' ((xs.map a.eval ++ cap).getD k0 undef) e:=hq
       rw [this,hv] at hq
       rw [ha];exact hq
     cases p with
     | gone=>exact .inr (.inl (by simp [Np,uP,Nat.beq_refl]))
     | to q' =>
      refine .inl ⟨q',by simp [Np,uP,Nat.beq_refl],key q' (fun h5=>?_) hp.1⟩
      rcases h1 with ⟨_,_,hg⟩ | ⟨h6,_⟩
      ·exact hg q' rfl
      ·rw [h6] at h5;cases h5
     | keep =>
      refine .inr (.inr ⟨(by simp only [Np];exact JM hc.1.1.1),q,List.mem_cons_self,key q (fun h5=>?_) hp.1⟩)
      rcases h1 with ⟨_,hg,_⟩ | ⟨h6,_⟩
      ·exact hg
      ·rw [h6] at h5;cases h5
end
theorem RU {U V:Oa} {s:Nat}:uP (U ++ V) s=(match uP U s with | some e=>some e | none=>uP V s):=by
 induction U with
 | nil=>rfl
 | cons x r ih =>
  obtain ⟨k,e⟩:=x
  simp only [List.cons_append,uP]
  cases Nat.beq k s with
  | true=>rfl
  | false=>exact ih
theorem fO {f:FuncId} {args C:List bF} {pre:List (Nat×gG)} {post:List Po} {own:Option gG} {res:bF} {xs:List Operand} {gs:List Nat} {K:List (Nat×gG)} {U:Oa}
    (hc:kY P f (args ++ C) pre post own res) (hE:Ov P N o xs f C) (hd:rO (res :: args)=true) (yC:(Jc pre gs && !(match o.dst with | some d=>has gs d | none=>false))=true)
    (hargs:zn N args xs) (hkey:yU N xs pre post gs) (hK:WH pre gs=K) (hU:Np gs post ++ U4 own o.dst=U):eG P o N K res U:=by
  subst hK;subst hU
  intro κ B F L h a w hst hn hk hdn next Q _ hnext
  simp only [Bool.and_eq_true,Bool.not_eq_true'] at yC
  obtain ⟨hcc,hdg⟩:=yC
  obtain ⟨cap,hcap,hrun⟩:=hE h a w hn
  have hdp:=qj hd
  obtain ⟨hlen,hall⟩:=hargs.spec
  have hal:=hargs.spec.1
  unfold Oper.sF
  rw [hrun,Je]
  have hst1:St B h (Sum.elim (fun k=>(toC pre gs k).bind L) (Sum.elim (fun s=>if (GH pre gs s).isSome then none else L s) F)) w:=by
    refine hst.H8 (fun k=>match k with | .inl k=>.inl ((toC pre gs k).getD 0) | .inr (.inl s)=>.inl s | .inr (.inr x)=>.inr x) ?_ ?_
    · intro k e he
      cases k with
      | inl k =>
        simp only [Sum.elim_inl] at he
        cases ht:toC pre gs k with
        | none=>rw [ht] at he;cases he
        | some g=>rw [ht] at he;simpa [ht] using he
      | inr k=>cases k with
        | inl s =>
          simp only [Sum.elim_inr,Sum.elim_inl] at he
          split at he
          · cases he
          · exact he
        | inr x=>exact he
    · intro k k' e e' hk1 hk2 hne
      have key:∀ k e,(toC pre gs k).bind L=some e→∃ g,toC pre gs k=some g∧GH pre gs g=some k:=by
        intro k e he
        cases ht:toC pre gs k with
        | none=>rw [ht] at he;cases he
        | some g=>exact ⟨g,rfl,jXy hcc ht⟩
      have keyS:∀ s e,(if (GH pre gs s).isSome then none else L s)=some e→GH pre gs s=none:=by
        intro s e he
        split at he
        · cases he
        · rename_i hh;simpa using hh
      cases k with
      | inl k =>
        obtain ⟨g,hg,hg'⟩:=key k e hk1
        cases k' with
        | inl k' =>
          obtain ⟨g2,hg2,YD⟩:=key k' e' hk2
          intro he
          simp only [hg,hg2,Option.getD_some] at he
          have:=Sum.inl.inj he
          rw [this,YD] at hg';cases hg';exact hne rfl
        | inr k'=>cases k' with
          | inl s =>
            intro he
            simp only [hg,Option.getD_some] at he
            have:=Sum.inl.inj he
            have h2:=keyS s e' hk2
            rw [← this,hg'] at h2;cases h2
          | inr x=>intro he;cases he
      | inr k=>cases k with
        | inl s =>
          have h2:=keyS s e hk1
          cases k' with
          | inl k' =>
            obtain ⟨g2,hg2,YD⟩:=key k' e' hk2
            intro he
            simp only [hg2,Option.getD_some] at he
            have:=Sum.inl.inj he
            rw [this,YD] at h2;cases h2
          | inr k'=>cases k' with
            | inl s'=>intro he;exact hne (by rw [Sum.inl.inj he])
            | inr x=>intro he;cases he
        | inr x=>cases k' with
          | inl k'=>intro he;cases he
          | inr k'=>cases k' with
            | inl s'=>intro he;cases he
            | inr x'=>intro he;exact hne (by rw [Sum.inr.inj he])
  refine (hc _ B _ h w (xs.map a.eval ++ cap) _ hst1 (by rw [List.length_append,List.length_append,List.length_map,hal,hcap.1]) (jXu hn hkey hk (fun k g hg=>by rw [hg];rfl) hcc) ?_).mono ?_
  · intro j g u hg hu
    by_cases hj:j<args.length
    · rw [List.getElem?_append_left hj] at hg
      rw [List.getElem?_append_left (by rw [List.length_map];omega),List.getElem?_map] at hu
      cases hx:xs[j]? with
      | none=>rw [hx] at hu;cases hu
      | some x =>
        rw [hx] at hu;cases hu
        have:=hall j g x hg hx h a hn
        unfold bF.dv at this
        rw [hdp g (List.mem_cons_of_mem _ (List.mem_of_getElem? hg))] at this
        exact this
    · rw [List.getElem?_append_right (by omega)] at hg
      rw [List.getElem?_append_right (by rw [List.length_map];omega),List.length_map,← hal] at hu
      exact hcap.2 _ g u hg hu
  · rintro e w' ⟨v,h',E',rfl,hl,hst',hpost,hown,hp⟩
    refine hnext v h' w' (fun s=>if o.dst=some s then (if own.isSome then E' 9999 else none) else match GH pre gs s with | some k=>E' k | none=>L s) hl ?_ ?_ ?_
    · unfold bF.dv
      rw [hdp res List.mem_cons_self]
      exact hp
    · refine hst'.H8 (fun k => match k with | .inl s => (if o.dst = some s then .inl 9999 else match GH pre gs s with | some k => .inl k | none => .inr (.inl s)) | .inr x => .inr (.inr x)) ?_ ?_
      · intro k e he
        cases k with
        | inr x=>exact he
        | inl s =>
          simp only [Sum.elim_inl] at he
          simp only []
          split at he
          · rename_i h1
            rw [if_pos h1]
            split at he
            · exact he
            · cases he
          · rename_i h1
            rw [if_neg h1]
            cases ho:GH pre gs s with
            | some k=>rw [ho] at he;exact he
            | none=>rw [ho] at he;simpa [ho] using he
      · intro k k' e e' hk1 hk2 hne
        have k9:∀ s,GH pre gs s≠some 9999:=by
          intro s he
          have:=(U6 he).2
          rw [jJw hcc] at this;cases this
        cases k with
        | inr x=>cases k' with
          | inr x'=>intro he;exact hne (by rw [Sum.inr.inj (Sum.inr.inj he)])
          | inl s =>
            intro he
            simp only [] at he
            split at he
            · cases he
            · cases ho:GH pre gs s <;> rw [ho] at he <;> cases he
        | inl s=>cases k' with
          | inr x =>
            intro he
            simp only [] at he
            split at he
            · cases he
            · cases ho:GH pre gs s <;> rw [ho] at he <;> cases he
          | inl s' =>
            have hss:s≠s':=fun x=>hne (by rw [x])
            intro he
            simp only [] at he
            by_cases h1:o.dst=some s
            · by_cases h2 : o.dst = some s'
              · rw [h1] at h2;exact hss (Option.some.inj h2)
              · rw [if_pos h1,if_neg h2] at he
                cases ho:GH pre gs s' with
                | none=>rw [ho] at he;cases he
                | some k=>rw [ho] at he;exact k9 s' (by rw [ho];exact congrArg some (Sum.inl.inj he).symm)
            · by_cases h2 : o.dst = some s'
              · rw [if_neg h1,if_pos h2] at he
                cases ho:GH pre gs s with
                | none=>rw [ho] at he;cases he
                | some k=>rw [ho] at he;exact k9 s (by rw [ho];exact congrArg some (Sum.inl.inj he))
              · rw [if_neg h1,if_neg h2] at he
                cases ho:GH pre gs s with
                | none=>cases ho':GH pre gs s' with
                  | none=>rw [ho,ho'] at he;exact hss (Sum.inl.inj (Sum.inr.inj he))
                  | some k'=>rw [ho,ho'] at he;cases he
                | some k=>cases ho':GH pre gs s' with
                  | none=>rw [ho,ho'] at he;cases he
                  | some k' =>
                    rw [ho,ho'] at he
                    have:=Sum.inl.inj he
                    subst this
                    have h1:=U7 hcc ho
                    have h2:=U7 hcc ho'
                    rw [h1] at h2;exact hss (Option.some.inj h2)
    · intro s
      unfold full
      rw [RU,RU]
      by_cases hds:o.dst=some s
      · have hg : has gs s = false := by rw [hds] at hdg; exact hdg
        rw [JM hg]
        simp only []
        cases own with
        | none =>
          simp [U4,uP,hds,Nat.beq_refl]
        | some q =>
          obtain ⟨e,he,hq⟩:=hown
          simp only [U4,hds,uP,Nat.beq_refl,cond_true,if_pos,Option.isSome_some]
          exact ⟨e,he,by rw [iL (hdn s hds)];exact hq⟩
      · have ha:(a.put o.dst v).gt s=a.gt s:=C9 hds
        have hrest:∀ e,uP (U4 own o.dst) s=some e→False:=by
          intro e he
          cases own with
          | none=>cases he
          | some q=>cases hd':o.dst with
            | none=>rw [hd'] at he;cases he
            | some d =>
              rw [hd'] at he
              simp only [U4,uP] at he
              cases hb:Nat.beq d s with
              | true=>rw [jL] at hb;subst hb;exact hds hd'
              | false=>rw [hb] at he;cases he
        cases hof:GH pre gs s with
        | some k =>
          have hfin:∀ e,uP (U4 own o.dst) s=some e→False:=hrest
          have h0:uP (full [] o.dst) s=none:=by
            unfold full
            cases hd':o.dst with
            | none=>rfl
            | some d =>
              simp only [List.nil_append,uP]
              cases hb:Nat.beq d s with
              | true=>rw [jL] at hb;subst hb;exact absurd hd' hds
              | false=>rfl
          unfold full at h0
          rw [List.nil_append] at h0
          rcases upd_of (E:=E') (L':=fun s=>if o.dst=some s then (if own.isSome then E' 9999 else none) else match GH pre gs s with | some k=>E' k | none=>L s) hn ha hkey hpost hcc k hof (by simp only [if_neg hds,hof]) with ⟨q,h1,h2⟩ | h1 | ⟨h1,h2⟩
          · rw [h1];exact h2
          · rw [h1];trivial
          · rw [h1]
            simp only []
            cases hr:uP (U4 own o.dst) s with
            | some e=>exact (hfin e hr).elim
            | none =>
              simp only []
              rw [h0]
              exact .inr h2
        | none =>
          rw [JM (has_of hcc hof)]
          simp only []
          cases hr:uP (U4 own o.dst) s with
          | some e=>exact (hrest e hr).elim
          | none =>
            simp only []
            have:uP (full [] o.dst) s=none:=by
              unfold full
              cases hd':o.dst with
              | none=>rfl
              | some d =>
                simp only [List.nil_append,uP]
                cases hb:Nat.beq d s with
                | true=>rw [jL] at hb;subst hb;exact absurd hd' hds
                | false=>rfl
            unfold full at this
            rw [List.nil_append] at this
            rw [this]
            exact .inl (by simp only [if_neg hds,hof])
end Go.KB
namespace Go.KB
variable {P:Program} {o:Oper} {N:List (Nat×bF)} {α β:Type}
def KI {S κ:Type} (f:S→κ→Option S):List κ→S→Option S
 | [],s=>some s
 | x :: r,s=>(f s x).bind (KI f r)
open Classical in
noncomputable def JO {κ R:Type} (l:List κ) (F:List κ→Option R):Option R :=
 if h:∃ r,∀ π,π.Perm l→F π=some r then some h.choose else none
theorem Hz {κ R:Type} {l:List κ} {F:List κ→Option R} {r:R} (h:JO l F=some r):∀ π,π.Perm l→F π=some r:=by
 unfold JO at h
 split at h
 ·rename_i hx;cases h;exact hx.choose_spec
 ·cases h
theorem ML {κ R:Type} {l:List κ} {F:List κ→Option R} {r:R} (h:∀ π,π.Perm l→F π=some r):JO l F=some r:=by
 unfold JO
 have hx:∃ r,∀ π,π.Perm l→F π=some r:=⟨r,h⟩
 rw [dif_pos hx]
 have h1:=hx.choose_spec l (List.Perm.refl l)
 rw [h l (List.Perm.refl l)] at h1
 exact h1.symm
theorem KW {S κ R:Type} {f:S→κ→Option S} {K:S→Option R} {s:S} {rem r1 r2:List κ} {p:κ} {r:R} (H:∀ π,π.Perm rem→(KI f π s).bind K=some r) (he:rem=r1 ++ p :: r2) :
  ∃ s',f s p=some s'∧∀ π,π.Perm (r1 ++ r2)→(KI f π s').bind K=some r:=by
 have key:∀ π,π.Perm (r1 ++ r2)→(((f s p).bind (KI f π)).bind K=some r):=fun π hp =>
  H (p :: π) (by rw [he];exact (List.Perm.cons p hp).trans List.perm_middle.symm)
 cases hs:f s p with
 | none=>have:=key _ (List.Perm.refl _);rw [hs] at this;cases this
 | some s'=>exact ⟨s',rfl,fun π hp=>by have:=key π hp;rwa [hs] at this⟩
def H9 (bm bi:Nat) (f:α→Value) (rv:Rep β) (l rem:List (α×β)) (cur:Option (α×β)):iM where
 claims:=[(bm,0),(bi,0)]
 ok:=fun h m=>∃ es clock seen,m bm=some (.map es clock)∧m bi=some (.mapIter (some bm) clock seen clock)∧bm≠bi∧Ef f rv h es.toList l∧BU es.toList clock∧Ef f rv h (leftOf es seen).toList rem ∧
  ∀ p,cur=some p→∃ (e:MapEntry) (seen':Array Nat),seen=seen'.push e.born∧e ∈ es.toList∧e.key=f p.1∧rv.val h e.val p.2
 mono:=by
  rintro h h' m hl ⟨es,c,s,h1,h2,h3,h4,h5,h6,h7⟩
  exact ⟨es,c,s,h1,h2,h3,h4.mono hl,h5,h6.mono hl,fun p hp=>let ⟨e,s',a,b,c,d⟩:=h7 p hp;⟨e,s',a,b,c,rv.RV hl d⟩⟩
 frame:=fun hm ⟨es,c,s,h1,h2,h3⟩=>⟨es,c,s,by rw [hm (bm,0) (by simp)];exact h1,by rw [hm (bi,0) (by simp)];exact h2,h3⟩
def Qw (sm:Value) (f:α→Value) (rv:Rep β) (l rem:List (α×β)) (cur:Option (α×β)):gG:=fun v e=>∃ bm bi,sm = .map (some bm)∧v = .pointer (some ⟨bi,0,none⟩)∧e=H9 bm bi f rv l rem cur
theorem YF (es:Array MapEntry):leftOf es #[]=es:=by
 unfold leftOf
 exact Array.filter_eq_self.2 (fun x _=>by simp)
theorem Ef.split {f:α→Value} {rv:Rep β} {h:H}:∀ {es:List MapEntry} {l:List (α×β)} {e:MapEntry},Ef f rv h es l→e ∈ es→∃ e1 e2 r1 p r2,es=e1 ++ e :: e2∧l=r1 ++ p :: r2∧e.key=f p.1∧rv.val h e.val p.2∧Ef f rv h (e1 ++ e2) (r1 ++ r2)
 | [],_,_,_,he=>by cases he
 | x :: es,[],_,hr,_=>hr.elim
 | x :: es,p :: l,e,⟨hx,hr⟩,he=>by
  rcases List.mem_cons.1 he with rfl | he
  ·exact ⟨[],es,[],p,l,rfl,rfl,hx.1,hx.2,hr⟩
  ·obtain ⟨e1,e2,r1,p',r2,h1,h2,h3,h4,h5⟩:=Ef.split hr he
   exact ⟨x :: e1,e2,p :: r1,p',r2,by rw [h1];rfl,by rw [h2];rfl,h3,h4,hx,h5⟩
theorem jJy {es:Array MapEntry} {seen:Array Nat} {e:MapEntry} {e1 e2:List MapEntry} (hn:(es.toList.map (·.born)).Nodup) (hl:(leftOf es seen).toList=e1 ++ e :: e2):(leftOf es (seen.push e.born)).toList=e1 ++ e2:=by
 have hnl:((leftOf es seen).toList.map (·.born)).Nodup:=by
  unfold leftOf
  rw [Array.toList_filter]
  exact (List.Sublist.map _ List.filter_sublist).nodup hn
 have h1:(leftOf es (seen.push e.born)).toList=(leftOf es seen).toList.filter (fun x=>!(x.born == e.born)):=by
  unfold leftOf
  rw [Array.toList_filter,Array.toList_filter,List.filter_filter]
  congr 1
  funext x
  rw [Array.contains_push,Bool.not_or,Bool.and_comm]
 rw [hl] at hnl
 rw [h1,hl,List.filter_append,List.filter_cons]
 have hne:∀ x,x ∈ e1∨x ∈ e2→x.born≠e.born:=by
  intro x hx heq
  rw [List.map_append,List.map_cons,List.nodup_append] at hnl
  obtain ⟨_,h3,h4⟩:=hnl
  rcases hx with hx | hx
  ·exact h4 x.born (List.mem_map.2 ⟨x,hx,rfl⟩) e.born (by simp) heq
  ·exact (List.nodup_cons.1 h3).1 (List.mem_map.2 ⟨x,hx,heq⟩)
 have f1:e1.filter (fun x=>!(x.born == e.born))=e1:=List.filter_eq_self.2 (fun x hx=>by simpa using hne x (.inl hx))
 have f2:e2.filter (fun x=>!(x.born == e.born))=e2:=List.filter_eq_self.2 (fun x hx=>by simpa using hne x (.inr hx))
 rw [f1,f2]
 simp
theorem Og {T K E:TypeId} {f:α→Value} {rv:Rep β} {g d:Nat} {sm:Value} {x:Operand} {l:List (α×β)} (hT:P.underlying T=some (.map K E)) (hgd:Nat.beq g d=false) (hd:o.dst=some d) (ho:o.op = .range T x) (hx:di N x (jh sm)) :
    eG P o N [(g,iI (eU f rv l) sm)] bF.uf [(g,none),(d,some (Qw sm f rv l l none))]:=by
  intro κ B F L h a w hst hn hk hdn next Q hnext _
  obtain ⟨e,hL,b,hv,rfl⟩:=hk.1
  have hL:L g=some (wF b f rv l):=hL
  have hx':a.eval x = .map (some b):=(hx h a hn:a.eval x=sm).trans hv
  have hne:g≠d:=fun x=>by rw [jL.2 x] at hgd;cases hgd
  obtain ⟨es,clock,hb,hr,hB⟩:=U8 hst hL
  unfold Oper.sF
  have:(execOp a.eval o).run P w = .ok (.value (.pointer (some ⟨w.heap.size,0,none⟩))) (w.alloc (.mapIter (some b) clock #[] clock)):=by
    simp only [execOp,ho,hx',Sem.run_bind,run_range_map w T K E b es clock hT hb,Result.andThen_ok,Sem.run_pure]
  rw [this]
  obtain ⟨hcl,_⟩:=hst.own (k:=Sum.inl g) hL
  have hlt:=(hcl (b,0) (by simp [wF])).2.1
  have hno:=(hcl (b,0) (by simp [wF])).2.2
  have hm:=hst.mv g d
  have hmd:mv L g d d=some (wF b f rv l):=by simp [mv,hL]
  refine hnext _ h _ (set1 (mv L g d) d (H9 b w.heap.size f rv l l none)) (og.refl h) trivial ?_ ?_
  · refine hm.step (hnf := hm.ZE) (Sum.inl d) (fun i => i = w.heap.size) (fun i hi hlt' => absurd hlt' (by omega)) (by simp) rfl rfl rfl (fun i hi _ => FN w _ hi) (og.refl h) (fun _ _ _ _ => rfl) ?_ vY ?_
    · rintro i o' u (rfl | hi) hu
      · rw [hst.fresh (Nat.le_refl _)] at hu;cases hu
      · rw [hst.fresh hi] at hu;cases hu
    · intro e' he
      rw [vZ he]
      refine ⟨fun c hc=>?_,es,clock,#[],?_,heap_alloc_new w _,by omega,hr,hB,by rw [YF];exact hr,fun p hp=>by cases hp⟩
      · simp only [H9,List.mem_cons,List.not_mem_nil,or_false] at hc
        rcases hc with rfl | rfl
        · exact ⟨.inr ⟨_,hmd,(b,0),by simp [wF],rfl⟩,by simp;omega,fun o' _=>hno o' (Nat.zero_le _)⟩
        · exact ⟨.inl (Nat.le_refl _),by simp,fun o' _=>hst.fresh (Nat.le_refl _) o'⟩
      · exact (FN w _ hlt).trans hb
  · rw [hd]
    intro k
    by_cases hkd:k=d
    · subst hkd
      have h1:uP (full [(g,none),(k,some (Qw sm f rv l l none))] (some k)) k=some (some (Qw sm f rv l l none)):=by
        simp [full,uP,hgd,Nat.beq_refl]
      rw [h1]
      exact ⟨_,tV,b,w.heap.size,hv,by rw [iL (hdn k hd)],rfl⟩
    · by_cases hkg : k = g
      · subst hkg
        have h1:uP (full [(k,none),(d,some (Qw sm f rv l l none))] (some d)) k=some none:=by simp [full,uP,Nat.beq_refl]
        rw [h1];trivial
      · have n1 : Nat.beq g k = false := by rw [Bool.eq_false_iff, Ne, jL]; exact fun x => hkg x.symm
        have n2:Nat.beq d k=false:=by rw [Bool.eq_false_iff,Ne,jL];exact fun x=>hkd x.symm
        have h1:uP (full [(g,none),(d,some (Qw sm f rv l l none))] (some d)) k=none:=by simp [full,uP,n1,n2]
        rw [h1]
        simp [set1,mv,hkd,hkg]

def J6 (sm si:Value) (f:α→Value) (rv:Rep β) (l rem:List (α×β)):gG:=fun v e=>(v = .tuple #[.bool false]∧rem=[]∧Qw sm f rv l [] none si e) ∨
 ∃ k x r1 p r2,v = .tuple #[.bool true,k,x]∧rem=r1 ++ p :: r2∧Qw sm f rv l (r1 ++ r2) (some p) si e
def TU (sm si:Value) (f:α→Value) (rv:Rep β) (l rem:List (α×β)):gG:=fun v e=>(v = .bool false∧rem=[]∧Qw sm f rv l [] none si e) ∨
 ∃ r1 p r2,v = .bool true∧rem=r1 ++ p :: r2∧Qw sm f rv l (r1 ++ r2) (some p) si e
theorem it_at {κ:Type} {B:Base} {h:H} {L:Nat→Option iM} {F:κ→Option iM} {w:World} (hst:St B h (Sum.elim L F) w) {s bm bi:Nat} {f:α→Value} {rv:Rep β} {l rem:List (α×β)} {cur:Option (α×β)} (hk:L s=some (H9 bm bi f rv l rem cur)) :
  ∃ es clock seen,w.heap[bm]? = some (.map es clock)∧w.heap[bi]? = some (.mapIter (some bm) clock seen clock)∧bm≠bi∧Ef f rv h es.toList l∧BU es.toList clock∧Ef f rv h (leftOf es seen).toList rem ∧
  ∀ p,cur=some p→∃ (e:MapEntry) (seen':Array Nat),seen=seen'.push e.born∧e ∈ es.toList∧e.key=f p.1∧rv.val h e.val p.2:=(hst.own (k:=Sum.inl s) hk).2
theorem WL {w:World} {b:Nat} {o o':Obj} (hb:w.heap[b]? = some o):(ChangeMaps.setBlock w b o').heap[b]? = some o':=by
 have:=(Array.getElem?_eq_some_iff.1 hb).1
 simp [ChangeMaps.setBlock,this]
theorem Qd {w:World} {b i:Nat} {o':Obj} (hi:i≠b):(ChangeMaps.setBlock w b o').heap[i]? = w.heap[i]?:=by
 simp [ChangeMaps.setBlock,Array.getElem?_setIfInBounds_ne (Ne.symm hi)]
theorem QM {f:α→Value} {rv:Rep β} {g d:Nat} {sm si:Value} {x:Operand} {l rem:List (α×β)} {cur:Option (α×β)} (hgd:Nat.beq g d=false) (hd:o.dst=some d) (ho:o.op = .next x false) (hx:di N x (jh si)) :
    eG P o N [(g,iI (Qw sm f rv l rem cur) si)] bF.uf [(g,none),(d,some (J6 sm si f rv l rem))]:=by
  intro κ B F L h a w hst hn hk hdn next Q hnext _
  obtain ⟨e,hL,bm,bi,hsm,hsi,rfl⟩:=hk.1
  have hL:L g=some (H9 bm bi f rv l rem cur):=hL
  have hx':a.eval x = .pointer (some ⟨bi,0,none⟩):=(hx h a hn:a.eval x=si).trans hsi
  have hne:g≠d:=fun x=>by rw [jL.2 x] at hgd;cases hgd
  obtain ⟨es,clock,seen,hb,hi,hbi,hr,hB,hleft,_⟩:=it_at hst hL
  obtain ⟨hcl,_⟩:=hst.own (k:=Sum.inl g) hL
  have hm:=hst.mv g d
  have hmd:mv L g d d=some (H9 bm bi f rv l rem cur):=by simp [mv,hL]
  have hupd:∀ (E:iM) (v:Value),J6 sm si f rv l rem v E→Ko L (set1 (mv L g d) d E) (full [(g,none),(d,some (J6 sm si f rv l rem))] o.dst) (a.put o.dst v):=by
    intro E v hq
    rw [hd]
    intro k
    by_cases hkd:k=d
    · subst hkd
      have h1:uP (full [(g,none),(k,some (J6 sm si f rv l rem))] (some k)) k=some (some (J6 sm si f rv l rem)):=by simp [full,uP,hgd,Nat.beq_refl]
      rw [h1]
      exact ⟨_,tV,by rw [iL (hdn k hd)];exact hq⟩
    · by_cases hkg : k = g
      · subst hkg
        have h1:uP (full [(k,none),(d,some (J6 sm si f rv l rem))] (some d)) k=some none:=by simp [full,uP,Nat.beq_refl]
        rw [h1];trivial
      · have n1 : Nat.beq g k = false := by rw [Bool.eq_false_iff, Ne, jL]; exact fun x => hkg x.symm
        have n2:Nat.beq d k=false:=by rw [Bool.eq_false_iff,Ne,jL];exact fun x=>hkd x.symm
        have h1:uP (full [(g,none),(d,some (J6 sm si f rv l rem))] (some d)) k=none:=by simp [full,uP,n1,n2]
        rw [h1]
        simp [set1,mv,hkd,hkg]
  unfold Oper.sF
  rcases run_next_at (P:=P) w o.type bi bm clock clock seen es clock hi hb hB.2 (Nat.le_refl _) with ⟨h0,hrun⟩ | ⟨e,he,w1,hw1,hrun⟩
  · have:(execOp a.eval o).run P w = .ok (.value (.tuple #[.bool false])) w:=by
      simp only [execOp,ho,hx',Sem.run_bind,hrun,Result.andThen_ok,Sem.run_pure]
    rw [this]
    have hnil:(leftOf es seen).toList=[]:=by
      have:(leftOf es seen).toList.length=0:=by simpa using h0
      exact List.eq_nil_of_length_eq_zero this
    have hrem:rem=[]:=by
      rw [hnil] at hleft
      cases rem with
      | nil=>rfl
      | cons _ _=>exact hleft.elim
    subst hrem
    refine hnext _ h _ (set1 (mv L g d) d (H9 bm bi f rv l [] none)) (og.refl h) trivial ?_ (hupd _ _ (.inl ⟨rfl,rfl,bm,bi,hsm,hsi,rfl⟩))
    exact hm.swap hmd (fun c hc=>⟨c,hc,rfl,Nat.le_refl _⟩) ⟨es,clock,seen,hb,hi,hbi,hr,hB,hleft,fun p hp=>by cases hp⟩
  · have:(execOp a.eval o).run P w = .ok (.value (.tuple #[.bool true,e.key,e.val])) (ChangeMaps.setBlock w1 bi (.mapIter (some bm) clock (seen.push e.born) clock)):=by
      simp only [execOp,ho,hx',Sem.run_bind,hrun,Result.andThen_ok,Sem.run_pure]
    rw [this]
    have hall:w1.heap=w.heap∧w1.os=w.os∧w1.tape=w.tape∧w1.output=w.output:=by rcases hw1 with rfl | rfl <;> exact ⟨rfl,rfl,rfl,rfl⟩
    have hdrw:w.drawn≤w1.drawn:=by rcases hw1 with rfl | rfl;exact Nat.le_refl _;exact Nat.le_succ _
    obtain ⟨e1,e2,r1,p,r2,hl,hrem,hkey,hval,hrest⟩:=hleft.split he
    have hmem:e ∈ es.toList:=by
      unfold leftOf at he
      rw [Array.toList_filter] at he
      exact (List.mem_filter.1 he).1
    refine hnext _ h _ (set1 (mv L g d) d (H9 bm bi f rv l (r1 ++ r2) (some p))) (og.refl h) trivial ?_ (hupd _ _ (.inr ⟨_,_,r1,p,r2,rfl,hrem,bm,bi,hsm,hsi,rfl⟩))
    have hno:=fun o'=>(hcl (bi,0) (by simp [H9])).2.2 o' (Nat.zero_le _)
    refine hm.step (hnf:=hm.Ph (k:=Sum.inl d) hmd (by simp [H9])) (hdr:=hdrw) (Sum.inl d) (fun i=>i=bi) (fun i hi _=>⟨_,hmd,(bi,0),by simp [H9],hi.symm⟩) (by simp [ChangeMaps.setBlock,hall.1]) hall.2.1 hall.2.2.1 hall.2.2.2 (fun i _ hi=>(Qd hi).trans (by rw [hall.1])) (og.refl h) (fun _ _ _ _=>rfl) ?_ vY ?_
    · rintro i o' u (rfl | hi') hu
      · rw [hno o'] at hu;cases hu
      · rw [hst.fresh hi'] at hu;cases hu
    · intro e' he'
      rw [vZ he']
      refine ⟨fun c hc=>?_,es,clock,seen.push e.born,(Qd hbi).trans (by rw [hall.1];exact hb),WL (o:=.mapIter (some bm) clock seen clock) (by rw [hall.1];exact hi),hbi,hr,hB,by rw [jJy hB.1 hl];exact hrest,fun p' hp'=>?_⟩
      · obtain ⟨_,h2,h3⟩:=hcl c hc
        exact ⟨.inr ⟨_,hmd,c,hc,rfl⟩,by simpa [ChangeMaps.setBlock,hall.1] using h2,h3⟩
      · cases hp'
        exact ⟨e,seen,rfl,hmem,hkey,hval⟩
theorem Jr {f:α→Value} {rv:Rep β} {g d:Nat} {sm si:Value} {l rem:List (α×β)} (hgd:Nat.beq g d=false) (hd:o.dst=some d) (ho:o.op = .extract (.tmp g) 0) :
  eG P o N [(g,J6 sm si f rv l rem)] bF.uf [(g,none),(d,some (TU sm si f rv l rem))]:=by
 intro κ B F L h a w hst hn hk hdn next Q hnext _
 obtain ⟨e,hL,hq⟩:=hk.1
 have hL:L g=some e:=hL
 have hne:g≠d:=fun x=>by rw [jL.2 x] at hgd;cases hgd
 unfold Oper.sF
 rcases hq with ⟨hv,h1,h2⟩ | ⟨k,x,r1,p,r2,hv,h1,h2⟩
 ·have hv':a.eval (.tmp g) = .tuple #[.bool false]:=hv
  have:(execOp a.eval o).run P w = .ok (.value (.bool false)) w:=by simp [execOp,ho,hv',Instr.extract]
  rw [this]
  refine hnext _ h w _ (og.refl h) trivial (hst.mv g d) ?_
  rw [hd]
  exact LK hne hL (by rw [iL (hdn d hd)];exact .inl ⟨rfl,h1,h2⟩)
 ·have hv':a.eval (.tmp g) = .tuple #[.bool true,k,x]:=hv
  have:(execOp a.eval o).run P w = .ok (.value (.bool true)) w:=by simp [execOp,ho,hv',Instr.extract]
  rw [this]
  refine hnext _ h w _ (og.refl h) trivial (hst.mv g d) ?_
  rw [hd]
  exact LK hne hL (by rw [iL (hdn d hd)];exact .inr ⟨r1,p,r2,rfl,h1,h2⟩)
theorem Oh [DecidableEq α] {K:TypeId} {rk:Rep α} {f:α→Value} {rv:Rep β} {g:Nat} {sm si:Value} {x:Operand} {l rem:List (α×β)} {p:α×β} (hf:Dz P K rk f) (ho:o.op = .entry x) (hx:di N x (jh si)) :
  eG P o N [(g,iI (Qw sm f rv l rem (some p)) si)] (Nw (fV rk p.1) (fV rv p.2)) []:=by
 intro κ B F L h a w hst hn hk hdn next Q hnext _
 obtain ⟨e,hL,bm,bi,hsm,hsi,rfl⟩:=hk.1
 have hL:L g=some (H9 bm bi f rv l rem (some p)):=hL
 have hx':a.eval x = .pointer (some ⟨bi,0,none⟩):=(hx h a hn:a.eval x=si).trans hsi
 obtain ⟨es,clock,seen,hb,hi,hbi,hr,hB,hleft,hc⟩:=it_at hst hL
 obtain ⟨e,seen',hs,he,hkey,hval⟩:=hc p rfl
 rw [hs] at hi
 have hrun:=run_entry_at (P:=P) w bi bm clock seen' es clock e hi hb he hB.1
 unfold Oper.sF
 have:(execOp a.eval o).run P w = .ok (.value (.tuple #[e.key,e.val])) w:=by
  simp only [execOp,ho,hx',Sem.run_bind,hrun,Result.andThen_ok,Sem.run_pure]
 rw [this]
 exact hnext _ h w L (og.refl h) ⟨_,_,rfl,by rw [hkey];exact hf.val h p.1,hval⟩ hst nR
section
variable {ρ:Option Nat} {κ:Type} {B:Base} {h0:H} {Γ:Ctx} {Λ:Own} {F:κ→Option iM} {n:Nat} {a:Act} {w:World} {Q:Exit→Act→World→Prop} {sm si:Value} {f:α→Value} {rv:Rep β} {l rem:List (α×β)}
theorem At.P6 {q:gG} (s g:Nat) (hsg:Nat.beq s g=false) (hAt:At B h0 Γ Λ F n a w) (hs:Λ s=some q) :
  ∃ sv,At B h0 (fun k=>bif Nat.beq s k then jh sv else Γ k) (fun k=>bif Nat.beq g k then some (iI q sv) else bif Nat.beq s k then none else Λ k) F n a w:=by
 obtain ⟨h,L,hle,hst,yx,qV,hsz,hdf⟩:=hAt
 obtain ⟨e,hL,hq⟩:=yx s q hs
 have hne:s≠g:=fun x=>by rw [jL.2 x] at hsg;cases hsg
 refine ⟨a.gt s,h,mv L s g,hle,hst.mv s g,?_,?_,hsz,hdf⟩
 ·intro k q' hq'
  cases hk:Nat.beq g k with
  | true=>simp only [hk,cond_true] at hq';cases hq';rw [jL] at hk;subst hk;exact ⟨e,by simp [mv,hL],hq⟩
  | false =>
   simp only [hk,cond_false] at hq'
   cases hk2:Nat.beq s k with
   | true=>simp only [hk2,cond_true] at hq';cases hq'
   | false =>
    simp only [hk2,cond_false] at hq'
    have n1:k≠g:=fun x=>by rw [jL.2 x.symm] at hk;cases hk
    have n2:k≠s:=fun x=>by rw [jL.2 x.symm] at hk2;cases hk2
    obtain ⟨e',h1,h2⟩:=yx k q' hq'
    exact ⟨e',by simp [mv,n1,n2,h1],h2⟩
 ·intro k
  cases hk:Nat.beq s k with
  | true=>simp only [hk,cond_true];rw [jL] at hk;subst hk;exact rfl
  | false=>simp only [hk,cond_false];exact qV k
theorem At.jXx {q:gG} (g:Nat) {q':gG} (hAt:At B h0 Γ Λ F n a w) (hs:Λ g=some q)
  (hq:∀ v e,q v e→∃ e',q' v e'∧(∀ c ∈ e'.claims,∃ c0 ∈ e.claims,c0.1=c.1∧c0.2≤c.2)∧∀ h m,e.ok h m→e'.ok h m):At B h0 Γ (fun k=>bif Nat.beq g k then some q' else Λ k) F n a w:=by
 obtain ⟨h,L,hle,hst,yx,qV,hsz,hdf⟩:=hAt
 obtain ⟨e,hL,hq1⟩:=yx g q hs
 obtain ⟨e',hq2,hcl,hok⟩:=hq _ _ hq1
 refine ⟨h,_,hle,hst.swap hL hcl (hok _ _ (hst.own (k:=Sum.inl g) hL).2),?_,qV,hsz,hdf⟩
 intro k q1 h1
 cases hk:Nat.beq g k with
 | true=>simp only [hk,cond_true] at h1;cases h1;rw [jL] at hk;subst hk;exact ⟨e',tV,hq2⟩
 | false =>
  simp only [hk,cond_false] at h1
  obtain ⟨e1,h2,h3⟩:=yx k q1 h1
  have n1:k≠g:=fun x=>by rw [jL.2 x.symm] at hk;cases hk
  exact ⟨e1,by simp [set1,n1,h2],h3⟩
theorem At.Rl {cur:Option (α×β)} (g:Nat) (hAt:At B h0 Γ Λ F n a w) (hs:Λ g=some (iI (Qw sm f rv l rem cur) si)):At B h0 Γ (fun k=>bif Nat.beq g k then some (iI (Qw sm f rv l rem none) si) else Λ k) F n a w :=
 hAt.jXx g hs fun v e ⟨bm,bi,h1,h2,he⟩=>⟨H9 bm bi f rv l rem none,⟨bm,bi,h1,h2,rfl⟩,by subst he;exact fun c hc=>⟨c,hc,rfl,Nat.le_refl _⟩,by
  subst he
  rintro h m ⟨es,c,s,k1,k2,k3,k4,k5,k6,_⟩
  exact ⟨es,c,s,k1,k2,k3,k4,k5,k6,fun p hp=>by cases hp⟩⟩
theorem At.QN {cur:Option (α×β)} (g:Nat) (hAt:At B h0 Γ Λ F n a w) (hs:Λ g=some (iI (Qw sm f rv l rem cur) si)):At B h0 Γ (fun k=>bif Nat.beq g k then some (iI (eU f rv l) sm) else Λ k) F n a w :=
 hAt.jXx g hs fun v e ⟨bm,bi,h1,h2,he⟩=>⟨wF bm f rv l,⟨bm,h1,rfl⟩,by subst he;intro c hc;exact ⟨c,by simp only [wF,List.mem_singleton] at hc;subst hc;simp [H9],rfl,Nat.le_refl _⟩,by
  subst he
  rintro h m ⟨es,c,s,k1,k2,k3,k4,k5,k6,_⟩
  exact ⟨es,c,k1,k4,k5⟩⟩
theorem L8 {t:Nat} {x y:Code} (g:Nat) (hgt:Nat.beq t g=false) (hAt:At B h0 Γ Λ F n a w) (hs:Λ t=some (TU sm si f rv l rem))
  (ht:∀ r1 p r2,rem=r1 ++ p :: r2→At B h0 Γ (fun k=>bif Nat.beq g k then some (iI (Qw sm f rv l (r1 ++ r2) (some p)) si) else bif Nat.beq t k then none else Λ k) F n a w→x.sF ρ P Q a w)
  (hf:rem=[]→At B h0 Γ (fun k=>bif Nat.beq g k then some (iI (Qw sm f rv l [] none) si) else bif Nat.beq t k then none else Λ k) F n a w→y.sF ρ P Q a w):(Code.cond (.tmp t) x y).sF ρ P Q a w:=by
 obtain ⟨h,L,hle,hst,yx,qV,hsz,hdf⟩:=hAt
 obtain ⟨e,hL,hq⟩:=yx t _ hs
 have hne:t≠g:=fun x=>by rw [jL.2 x] at hgt;cases hgt
 have key:∀ q:gG,q si e→At B h0 Γ (fun k=>bif Nat.beq g k then some (iI q si) else bif Nat.beq t k then none else Λ k) F n a w:=by
  intro q hq
  refine ⟨h,mv L t g,hle,hst.mv t g,?_,qV,hsz,hdf⟩
  intro k q' hq'
  cases hk:Nat.beq g k with
  | true=>simp only [hk,cond_true] at hq';cases hq';rw [jL] at hk;subst hk;exact ⟨e,by simp [mv,hL],hq⟩
  | false =>
   simp only [hk,cond_false] at hq'
   cases hk2:Nat.beq t k with
   | true=>simp only [hk2,cond_true] at hq';cases hq'
   | false =>
    simp only [hk2,cond_false] at hq'
    have n1:k≠g:=fun x=>by rw [jL.2 x.symm] at hk;cases hk
    have n2:k≠t:=fun x=>by rw [jL.2 x.symm] at hk2;cases hk2
    obtain ⟨e',h1,h2⟩:=yx k q' hq'
    exact ⟨e',by simp [mv,n1,n2,h1],h2⟩
 rcases hq with ⟨hv,h1,h2⟩ | ⟨r1,p,r2,hv,h1,h2⟩
 ·exact wp_cond_split (t:=false) (show Act.eval a (.tmp t)=_ from hv) (fun e=>by cases e) (fun _=>hf h1 (key _ h2))
 ·exact wp_cond_split (t:=true) (show Act.eval a (.tmp t)=_ from hv) (fun _=>ht r1 p r2 h1 (key _ h2)) (fun e=>by cases e)
theorem Hy {S R κ':Type} {body:Code} {f:S→κ'→Option S} {K:S→Option R} {r:R} {l:List κ'} (Inv:S→List κ'→Act→World→Prop) (Post:Exit→Act→World→Prop)
  (hb:∀ s rem a w,(∀ π,π.Perm rem→(KI f π s).bind K=some r)→Inv s rem a w→body.sF ρ P (fun e a' w'=>(e = .normal∧∃ s' r1 p r2,rem=r1 ++ p :: r2∧f s p=some s'∧Inv s' (r1 ++ r2) a' w')∨(e ≠ .normal∧Post e a' w')) a w) :
  ∀ (s0:S) (a:Act) (w:World),(∀ π,π.Perm l→(KI f π s0).bind K=some r)→Inv s0 l a w→(Code.loop body).sF ρ P Post a w:=by
 intro s0 a w hH hI b k cs hro hbf hrm
 have key:∀ N (l:List κ') s a w,l.length=N→(∀ π,π.Perm l→(KI f π s).bind K=some r)→Inv s l a w →
   ∃ e a' w',Post e a' w'∧ArrivesIn (Machine.fenced P (Tv ρ)) P (lone (b.atR a (.code body :: .inLoop body :: k)) cs w) b k cs e a' w':=by
  intro N
  induction N using Nat.strongRecOn with
  | _ N ih =>
   intro l s a w hl hH hI
   obtain ⟨e,a₁,w₁,hq,harr⟩:=hb s l a w hH hI b (.inLoop body :: k) cs hro hbf hrm
   rcases hq with ⟨rfl,s',r1,p,r2,he,hs,hI'⟩ | ⟨hne,hp⟩
   ·obtain ⟨s2,hs2,hH'⟩:=KW hH he
    rw [hs] at hs2;cases hs2
    obtain ⟨e₂,a₂,w₂,hq₂,harr₂⟩:=ih (r1 ++ r2).length (by rw [← hl,he];simp) (r1 ++ r2) s' a₁ w₁ rfl hH' hI'
    exact ⟨e₂,a₂,w₂,hq₂,.of_steps (StepsIn.trans harr (.one (fenced_calm hbf hrm rfl) stepR_inLoop)) harr₂⟩
   ·exact ⟨e,a₁,w₁,hp,.pass (x:=.inLoop body) rfl (fun _ _=>.inl hne) harr⟩
 obtain ⟨e,a',w',hq,harr⟩:=key _ l s0 a w rfl hH hI
 exact ⟨e,a',w',hq,.of_steps (.one (fenced_calm hbf hrm rfl) stepR_loop) harr⟩
end
end Go.KB
namespace Go.KB
variable {P:Program} {o:Oper} {N:List (Nat×bF)} {α β:Type}
theorem callsG {f:FuncId} {args:List bF} {pre:List (Nat×gG)} {post:List Po} {res:bF} {gs:List Nat} {κ:Type} {B:Base} {h:H} {L:Nat→Option iM} {F:κ→Option iM} {w:World} {vs:List Value}
  (hc:kY P f args pre post none res) (hcc:Jc pre gs=true) (hst:St B h (Sum.elim L F) w) (hlen:args.length=vs.length) (hpre:RQ pre (fun k=>(toC pre gs k).bind L) (WI fun k=>vs.getD k undef))
  (hargs:∀ (j:Nat) (g:bF) (u:Value),args[j]? = some g→vs[j]? = some u→g.p h undef u) :
  Calls P f vs.toArray w (fun e w'=>∃ v h' E',e = .returned v∧og h h'∧St B h' (Sum.elim (fun s=>match GH pre gs s with | some k=>E' k | none=>L s) F) w'∧JI pre post E' (WI fun k=>vs.getD k undef)∧res.p h' undef v):=by
 have hst1:St B h (Sum.elim (fun k=>(toC pre gs k).bind L) (Sum.elim (fun s=>if (GH pre gs s).isSome then none else L s) F)) w:=by
  refine hst.H8 (fun k=>match k with | .inl k=>.inl ((toC pre gs k).getD 0) | .inr (.inl s)=>.inl s | .inr (.inr x)=>.inr x) ?_ ?_
  ·intro k e he
   cases k with
   | inl k =>
    simp only [Sum.elim_inl] at he
    cases ht:toC pre gs k with
    | none=>rw [ht] at he;cases he
    | some g=>rw [ht] at he;simpa [ht] using he
   | inr k=>cases k with
    | inl s =>
     simp only [Sum.elim_inr,Sum.elim_inl] at he
     split at he
     ·cases he
     ·exact he
    | inr x=>exact he
  ·intro k k' e e' hk1 hk2 hne
   have key:∀ k e,(toC pre gs k).bind L=some e→∃ g,toC pre gs k=some g∧GH pre gs g=some k:=by
    intro k e he
    cases ht:toC pre gs k with
    | none=>rw [ht] at he;cases he
    | some g=>exact ⟨g,rfl,jXy hcc ht⟩
   have keyS:∀ s e,(if (GH pre gs s).isSome then none else L s)=some e→GH pre gs s=none:=by
    intro s e he
    split at he
    ·cases he
    ·rename_i hh;simpa using hh
   cases k with
   | inl k =>
    obtain ⟨g,hg,hg'⟩:=key k e hk1
    cases k' with
    | inl k' =>
     obtain ⟨g2,hg2,YD⟩:=key k' e' hk2
     intro he
     simp only [hg,hg2,Option.getD_some] at he
     have:=Sum.inl.inj he
     rw [this,YD] at hg';cases hg';exact hne rfl
    | inr k'=>cases k' with
     | inl s =>
      intro he
      simp only [hg,Option.getD_some] at he
      have:=Sum.inl.inj he
      have h2:=keyS s e' hk2
      rw [← this,hg'] at h2;cases h2
     | inr x=>intro he;cases he
   | inr k=>cases k with
    | inl s =>
     have h2:=keyS s e hk1
     cases k' with
     | inl k' =>
      obtain ⟨g2,hg2,YD⟩:=key k' e' hk2
      intro he
      simp only [hg2,Option.getD_some] at he
      have:=Sum.inl.inj he
      rw [this,YD] at h2;cases h2
     | inr k'=>cases k' with
      | inl s'=>intro he;exact hne (by rw [Sum.inl.inj he])
      | inr x=>intro he;cases he
    | inr x=>cases k' with
     | inl k'=>intro he;cases he
     | inr k'=>cases k' with
      | inl s'=>intro he;cases he
      | inr x'=>intro he;exact hne (by rw [Sum.inr.inj he])
 refine (hc _ B _ h w vs _ hst1 hlen hpre hargs).mono ?_
 rintro e w' ⟨v,h',E',rfl,hl,hst',hpost,_,hp⟩
 refine ⟨v,h',E',rfl,hl,?_,hpost,hp⟩
 refine hst'.H8 (fun k=>match k with | .inl s=>(match GH pre gs s with | some k=>.inl k | none=>.inr (.inl s)) | .inr x=>.inr (.inr x)) ?_ ?_
 ·intro k e he
  cases k with
  | inr x=>exact he
  | inl s =>
   simp only [Sum.elim_inl] at he
   simp only []
   cases ho:GH pre gs s with
   | some k=>rw [ho] at he;exact he
   | none=>rw [ho] at he;simpa [ho] using he
 ·intro k k' e e' hk1 hk2 hne
  cases k with
  | inr x=>cases k' with
   | inr x'=>intro he;exact hne (by rw [Sum.inr.inj (Sum.inr.inj he)])
   | inl s=>intro he;simp only [] at he;cases ho:GH pre gs s <;> rw [ho] at he <;> cases he
  | inl s=>cases k' with
   | inr x=>intro he;simp only [] at he;cases ho:GH pre gs s <;> rw [ho] at he <;> cases he
   | inl s' =>
    have hss:s≠s':=fun x=>hne (by rw [x])
    intro he
    simp only [] at he
    cases ho:GH pre gs s with
    | none=>cases ho':GH pre gs s' with
     | none=>rw [ho,ho'] at he;exact hss (Sum.inl.inj (Sum.inr.inj he))
     | some k'=>rw [ho,ho'] at he;cases he
    | some k=>cases ho':GH pre gs s' with
     | none=>rw [ho,ho'] at he;cases he
     | some k' =>
      rw [ho,ho'] at he
      have:=Sum.inl.inj he
      subst this
      have h1:=U7 hcc ho
      have h2:=U7 hcc ho'
      rw [h1] at h2;exact hss (Option.some.inj h2)
abbrev KE:=List (Nat×iM)
def Jb:KE→Nat→Option iM
 | [],_=>none
 | (k,e) :: r,s=>bif Nat.beq k s then some e else Jb r s
def yT (l:KE):iM where
 claims:=l.flatMap (fun p=>p.2.claims)
 ok:=fun h m=>∀ p ∈ l,p.2.ok h m
 mono:=fun hl x p hp=>p.2.mono hl (x p hp)
 frame:=fun hm x p hp=>p.2.frame (fun c hc=>hm c (List.mem_flatMap.2 ⟨p,hp,hc⟩)) (x p hp)
def J8 (l:KE):Prop:=l.Pairwise fun p p'=>Hr p.2.claims p'.2.claims
def JK:KE→Bool
 | []=>true
 | (k,_) :: r=>!((Jb r k).isSome)&&JK r
theorem QU:∀ {l:KE} {k:Nat} {e:iM},Jb l k=some e→(k,e) ∈ l:=by
 intro l
 induction l with
 | nil=>intro k e h;cases h
 | cons x r ih =>
  obtain ⟨k0,e0⟩:=x
  intro k e h
  simp only [Jb] at h
  cases hk:Nat.beq k0 k with
  | true=>rw [hk] at h;cases h;rw [jL] at hk;subst hk;simp
  | false=>rw [hk] at h;exact List.mem_cons_of_mem _ (ih h)
theorem Oz:∀ {l:KE} {k:Nat} {e:iM},(k,e) ∈ l→(Jb l k).isSome=true:=by
 intro l
 induction l with
 | nil=>intro k e h;cases h
 | cons x r ih =>
  obtain ⟨k0,e0⟩:=x
  intro k e h
  simp only [Jb]
  cases hk:Nat.beq k0 k with
  | true=>rfl
  | false =>
   rcases List.mem_cons.1 h with h | h
   ·cases h;rw [Nat.beq_refl] at hk;cases hk
   ·exact ih h
theorem J8.get {l:KE} (hd:J8 l):∀ {k k':Nat} {e e':iM},Jb l k=some e→Jb l k'=some e'→k≠k'→Hr e.claims e'.claims:=by
 induction l with
 | nil=>intro k k' e e' h;cases h
 | cons x r ih =>
  obtain ⟨k0,e0⟩:=x
  intro k k' e e' h h' hne
  obtain ⟨h1,h2⟩:=List.pairwise_cons.1 hd
  simp only [Jb] at h h'
  cases hk:Nat.beq k0 k with
  | true =>
   rw [hk] at h;cases h
   rw [jL] at hk;subst hk
   have hk':Nat.beq k0 k'=false:=by rw [Bool.eq_false_iff,Ne,jL];exact hne
   rw [hk'] at h'
   exact h1 _ (QU h')
  | false =>
   rw [hk] at h
   cases hk':Nat.beq k0 k' with
   | true =>
    rw [hk'] at h';cases h'
    have:=h1 _ (QU h)
    exact fun c hc c' hc' he=>this c' hc' c hc he.symm
   | false=>rw [hk'] at h';exact ih h2 h h' hne
section
variable {κ:Type} {B:Base} {h:H} {L:Nat→Option iM} {F:κ→Option iM} {w:World}
theorem U3 (hst:St B h (Sum.elim L F) w):∀ {l:KE},(∀ p ∈ l,L p.1=some p.2)→JK l=true→J8 l:=by
 intro l
 induction l with
 | nil=>intro _ _;exact List.Pairwise.nil
 | cons x r ih =>
  obtain ⟨k,e⟩:=x
  intro hL hn
  simp only [JK,Bool.and_eq_true,Bool.not_eq_true'] at hn
  refine List.pairwise_cons.2 ⟨fun p hp=>?_,ih (fun p hp=>hL p (List.mem_cons_of_mem _ hp)) hn.2⟩
  have hne:k≠p.1:=fun e'=>by
   have:=Oz (l:=r) (k:=p.1) (e:=p.2) hp
   rw [← e',hn.1] at this;cases this
  exact fun c hc c' hc'=>hst.zo (k:=.inl k) (k':=.inl p.1) (hL _ List.mem_cons_self) (hL _ (List.mem_cons_of_mem _ hp)) (fun he=>hne (Sum.inl.inj he)) c hc c' hc'
theorem St.yT (hst:St B h (Sum.elim L F) w) {l:KE} (g:Nat) (hL:∀ p ∈ l,L p.1=some p.2):St B h (Sum.elim (fun k=>if k=g then some (yT l) else if (Jb l k).isSome then none else L k) F) w:=by
  have key:∀ k e,(if k=g then some (KB.yT l) else if (Jb l k).isSome then none else L k)=some e→(k=g∧e=KB.yT l)∨(k≠g∧(Jb l k)=none∧L k=some e):=by
    intro k e he
    split at he
    · rename_i h1;cases he;exact .inl ⟨h1,rfl⟩
    · rename_i h1
      split at he
      · cases he
      · rename_i h2
        refine .inr ⟨h1,?_,he⟩
        cases hl:Jb l k with
        | none=>rfl
        | some x=>rw [hl] at h2;exact absurd rfl h2
  refine ⟨hst.low,hst.base,fun x=>hst.ext x,?_,?_,hst.mark,fun x i y=>hst.nf x i y⟩
  · intro k e he
    cases k with
    | inr x=>exact hst.own (k:=.inr x) he
    | inl k =>
      rcases key k e he with ⟨rfl,rfl⟩ | ⟨_,_,hk⟩
      · refine ⟨fun c hc => ?_, fun p hp => (hst.own (k := .inl p.1) (hL p hp)).2⟩
        obtain ⟨p,hp,hc⟩:=List.mem_flatMap.1 hc
        exact (hst.own (k:=.inl p.1) (hL p hp)).1 c hc
      · exact hst.own (k:=.inl k) hk
  · have one:∀ (x:Nat ⊕ κ) e',Sum.elim (fun k=>if k=g then some (KB.yT l) else if (Jb l k).isSome then none else L k) F x=some e'→x ≠ .inl g→∀ c ∈ (KB.yT l).claims,∀ c' ∈ e'.claims,c.1≠c'.1:=by
      intro x e' he hx c hc c' hc'
      obtain ⟨p,hp,hc⟩:=List.mem_flatMap.1 hc
      cases x with
      | inr y=>exact hst.zo (k:=.inl p.1) (k':=.inr y) (hL p hp) he (fun h=>by cases h) c hc c' hc'
      | inl k =>
        rcases key k e' he with ⟨rfl,_⟩ | ⟨_,h1,hk⟩
        · exact absurd rfl hx
        · have hne : p.1 ≠ k := fun e' => by have := Oz (l := l) (k := p.1) (e := p.2) hp; rw [e', h1] at this; cases this
          exact hst.zo (k:=.inl p.1) (k':=.inl k) (hL p hp) hk (fun h=>hne (Sum.inl.inj h)) c hc c' hc'
    intro k k' e e' he he' hne c hc c' hc'
    by_cases h1:k = .inl g
    · subst h1
      have:e=KB.yT l:=by
        rcases key g e he with ⟨_,h⟩ | ⟨h,_⟩
        · exact h
        · exact absurd rfl h
      subst this
      exact one k' e' he' (fun h=>hne h.symm) c hc c' hc'
    · by_cases h2 : k' = .inl g
      · subst h2
        have:e'=KB.yT l:=by
          rcases key g e' he' with ⟨_,h⟩ | ⟨h,_⟩
          · exact h
          · exact absurd rfl h
        subst this
        exact fun h=>one k e he h1 c' hc' c hc h.symm
      · have tr:∀ (x:Nat ⊕ κ) e',Sum.elim (fun k=>if k=g then some (KB.yT l) else if (Jb l k).isSome then none else L k) F x=some e'→x ≠ .inl g→Sum.elim L F x=some e':=by
          intro x e' he hx
          cases x with
          | inr y=>exact he
          | inl k =>
            rcases key k e' he with ⟨rfl,_⟩ | ⟨_,_,hk⟩
            · exact absurd rfl hx
            · exact hk
        exact hst.zo (tr k e he h1) (tr k' e' he' h2) hne c hc c' hc'
theorem St.splitK (hst:St B h (Sum.elim L F) w) {l:KE} {g:Nat} (hg:L g=some (KB.yT l)) (hd:J8 l):St B h (Sum.elim (fun k=>match Jb l k with | some e=>some e | none=>if k=g then none else L k) F) w:=by
 obtain ⟨hcl,hok⟩:=hst.own (k:=.inl g) hg
 have key:∀ k e,(match Jb l k with | some e=>some e | none=>if k=g then none else L k)=some e→Jb l k=some e∨(Jb l k=none∧k≠g∧L k=some e):=by
  intro k e he
  cases hl:Jb l k with
  | some e0=>rw [hl] at he;cases he;exact .inl rfl
  | none =>
   rw [hl] at he
   simp only [] at he
   split at he
   ·cases he
   ·rename_i h1;exact .inr ⟨rfl,h1,he⟩
 have cl:∀ {k e c},Jb l k=some e→c ∈ e.claims→c ∈ (KB.yT l).claims:=fun hk hc=>List.mem_flatMap.2 ⟨_,QU hk,hc⟩
 refine ⟨hst.low,hst.base,fun x=>hst.ext x,?_,?_,hst.mark,fun x i y=>hst.nf x i y⟩
 ·intro k e he
  cases k with
  | inr x=>exact hst.own (k:=.inr x) he
  | inl k =>
   rcases key k e he with hk | ⟨_,_,hk⟩
   ·exact ⟨fun c hc=>hcl c (cl hk hc),hok _ (QU hk)⟩
   ·exact hst.own (k:=.inl k) hk
 ·intro k k' e e' he he' hne c hc c' hc'
  have out:∀ (x:Nat ⊕ κ) e',Sum.elim (fun k=>match Jb l k with | some e=>some e | none=>if k=g then none else L k) F x=some e'→(∃ k,x = .inl k∧Jb l k=some e')∨(x ≠ .inl g∧Sum.elim L F x=some e'):=by
   intro x e' he
   cases x with
   | inr y=>exact .inr ⟨fun h=>(by cases h),he⟩
   | inl k =>
    rcases key k e' he with hk | ⟨_,h1,hk⟩
    ·exact .inl ⟨k,rfl,hk⟩
    ·exact .inr ⟨fun h=>h1 (Sum.inl.inj h),hk⟩
  rcases out k e he with ⟨k1,rfl,h1⟩ | ⟨h1,h2⟩
  ·rcases out k' e' he' with ⟨k2,rfl,h3⟩ | ⟨h3,h4⟩
   ·exact hd.get h1 h3 (fun h=>hne (by rw [h])) c hc c' hc'
   ·exact hst.zo (k:=.inl g) hg h4 (fun h=>h3 h.symm) c (cl h1 hc) c' hc'
  ·rcases out k' e' he' with ⟨k2,rfl,h3⟩ | ⟨h3,h4⟩
   ·exact hst.zo h2 (k':=.inl g) hg h1 c hc c' (cl h3 hc')
   ·exact hst.zo h2 h4 hne c hc c' hc'
end
def YlOk (P:Program) {X ι:Type} (A:ι→List bF) (YE:X→iM→Prop) (Y:X→ι→Option (X×Bool)) (h:H) (l:Nat):Prop :=
 ∀ (i:ι) (x x':X) (b:Bool),Y x i=some (x',b)→∀ (κ:Type) (B:Base) (L:κ→Option iM) (h':H) (w:World) (vs:List Value) (e:iM),og h h'→St B h' (Sum.elim (fun _:Unit=>some e) L) w→YE x e→(A i).length=vs.length →
  (∀ (j:Nat) (g:bF) (v:Value),(A i)[j]? = some g→vs[j]? = some v→g.p h' undef v) →
  YieldAt (Tv none) 0 P l vs.toArray w (fun en w'=>∃ h'' e',en = .returned (.bool b)∧og h' h''∧St B h'' (Sum.elim (fun _:Unit=>some e') L) w'∧YE x' e')
def VS (P:Program) {X ι:Type} (A:ι→List bF) (YE:X→iM→Prop) (Y:X→ι→Option (X×Bool)):bF :=
 ⟨none,fun h _ v=>∃ l,v = .func (.yield l) #[] #[]∧YlOk P A YE Y h l,fun hl ⟨l,e,k⟩=>⟨l,e,fun i x x' b hY κ B L h' w vs en hl'=>k i x x' b hY κ B L h' w vs en (hl.trans hl')⟩⟩
def yE {X:Type} (YE:X→iM→Prop) (x:X):gG:=fun _ e=>YE x e
theorem Gh.yE {X:Type} {YE:X→iM→Prop} {x:X}:Gh (yE YE x):=fun _ _ _ h=>h
theorem TV {X ι:Type} {A:ι→List bF} {YE:X→iM→Prop} {Y:X→ι→Option (X×Bool)} (i:ι) {x x':X} {b:Bool} {g:Nat} {z:Operand} {xs:Array Operand} {ts:Array TypeId} (hY:Y x i=some (x',b)) (hd:rO (A i)=true)
  (ho:o.op = .call { callee:=.value z,args:=xs,argTypes:=ts }) (hz:di N z (VS P A YE Y)) (hargs:zn N (A i) xs.toList):eG P o N [(g,yE YE x)] (fV Rep.bool b) [(g,some (yE YE x'))]:=by
 intro κ B F L h a w hst hn hk hdn next Q hnext _
 obtain ⟨e,hL,hq⟩:=hk.1
 have hL:L g=some e:=hL
 obtain ⟨l,hv,hyl⟩:=hz h a hn
 have hdp:=qj hd
 obtain ⟨hlen,hall⟩:=hargs.spec
 have hst1:St B h (Sum.elim (fun _:Unit=>some e) (Sum.elim (fun k=>if k=g then none else L k) F)) w:=by
  have:=(Jd hL).symm ▸ hst
  exact St.out this
 obtain ⟨fn,tmps,assign,body,hy,hR⟩:=hyl i x x' b hY _ B _ h w (xs.toList.map a.eval) e (og.refl h) hst1 hq (by rw [List.length_map];exact hlen) (by
  intro j gg v hg hv
  rw [List.getElem?_map] at hv
  cases hx:xs.toList[j]? with
  | none=>rw [hx] at hv;cases hv
  | some x =>
   rw [hx] at hv;cases hv
   have:=hall j gg x hg hx h a hn
   unfold bF.dv at this
   rw [hdp gg (List.mem_of_getElem? hg)] at this
   exact this)
 have e1:(xs.toList.map a.eval).toArray=xs.map a.eval:=by apply Array.ext';simp
 rw [e1] at hy
 have hrun:(execOp a.eval o).run P w = .ok (.round l fn tmps assign body) w:=by
  simp only [execOp,ho,Sem.run_bind]
  simp [resolve,hv,Deferred.ofValue,invoke,hy]
 unfold Oper.sF
 rw [hrun]
 show RoundIn (Tv none) 0 P l fn tmps assign body w _
 refine hR.mono ?_
 rintro en w' ⟨h',e',rfl,hl,hst',hq'⟩
 refine hnext (.bool b) h' w' _ hl (pz.2 rfl) hst'.into ?_
 exact oI hq'
def nZ (l:Nat) (r:Loop):iM where
 claims:=[(l,0)]
 ok:=fun _ m=>m l=some (.loop r)
 mono:=fun _ x=>x
 frame:=fun hm x=>by rw [hm (l,0) (by simp)];exact x
def qW (D:Nat):iM where
 claims:=[(D,0)]
 ok:=fun _ m=>m D=some (.deferred (some []))
 mono:=fun _ x=>x
 frame:=fun hm x=>by rw [hm (D,0) (by simp)];exact x
def recQ (l:Nat) (r:Loop):gG:=fun _ e=>e=nZ l r
def TF (D:Nat):gG:=fun _ e=>e=qW D
def WM (r:Loop):Loop:={ r with state:=.busy }
def mark (D:Nat):Deferred:={ target:=.collected D,args:=#[] }
def HasQ (Λ:Own):List (Nat×gG)→Prop
 | []=>True
 | (k,q) :: r=>Λ k=some q∧HasQ Λ r
def GhL:List (Nat×gG)→Prop
 | []=>True
 | (_,q) :: r=>Gh q∧GhL r
def xOf (js:List Exit):Option Nat→Exit
 | none=>.normal
 | some k=>js.getD k .normal
def cdOf:Exit→Option Code
 | .ret=>some .ret
 | .exit id=>some (.exit id)
 | _=>none
def ZF:List Exit→Bool
 | []=>true
 | e :: r=>(cdOf e).isSome&&ZF r
def yl {S ι:Type} (g:S→ι→Option (S×Option Nat)) (m:Nat):S×Option Nat→ι→Option ((S×Option Nat)×Bool):=fun x i=>match x.2 with
 | none=>(match g x.1 i with
  | some (s',j)=>(match j with | none=>some ((s',none),true) | some k=>bif Nat.blt k m then some ((s',some k),false) else none)
  | none=>none)
 | some _=>none
def RoundP (n:Nat) {κ:Type} (B:Base) (h0:H) (F:κ→Option iM) (l:Nat) (r:Loop) (D:Nat) (Qs:List (Nat×gG)) (js:List Exit) (j:Option Nat):Exit→Act→World→Prop :=
 fun e a w=>xOf js j=e∧∃ Γ Λ,At B h0 Γ Λ F n a w∧Λ 4998=some (recQ l (WM r))∧Λ 4999=some (TF D)∧HasQ Λ Qs
section
variable {κ:Type} {B:Base} {h h0:H} {L:Nat→Option iM} {Γ:Ctx} {Λ:Own} {F:κ→Option iM} {n:Nat} {a:Act} {w:World} {l D:Nat} {r:Loop}
theorem U9 (hst:St B h (Sum.elim L F) w) {k:Nat} (hL:L k=some (nZ l r)) (r':Loop):w.heap[l]? = some (.loop r)∧St B h (Sum.elim (set1 L k (nZ l r')) F) (w.putObj l (.loop r')):=by
 obtain ⟨hcl,hok⟩:=hst.own (k:=Sum.inl k) hL
 have hl:w.heap[l]? = some (.loop r):=hok
 have hlt:=(Array.getElem?_eq_some_iff.1 hl).1
 refine ⟨hl,?_⟩
 have hno:=fun o'=>(hcl (l,0) (by simp [nZ])).2.2 o' (Nat.zero_le _)
 refine hst.step (hnf:=hst.Ph (k:=Sum.inl k) hL (by simp [nZ])) (Sum.inl k) (fun i=>i=l) (fun i hi _=>⟨_,hL,(l,0),by simp [nZ],hi.symm⟩) (by simp) rfl rfl rfl (fun i _ hi=>World.putObj_heap_other hi) (og.refl h) (fun _ _ _ _=>rfl) ?_ vY ?_
 ·rintro i o' u (rfl | hi) hu
  ·rw [hno o'] at hu;cases hu
  ·rw [hst.fresh hi] at hu;cases hu
 ·intro e' he
  rw [vZ he]
  refine ⟨fun c hc=>?_,World.putObj_heap_same hlt⟩
  simp only [nZ,List.mem_singleton] at hc
  subst hc
  exact ⟨.inr ⟨_,hL,(l,0),by simp [nZ],rfl⟩,by simpa using hlt,fun o' _=>hno o'⟩
theorem P7 {body:Code} {K:Exit→Act→World→Prop} (hAt:At B h0 Γ Λ F n a w) (h8:Λ 4998=some (recQ l r)) (hr:r.state = .ready)
  (hk:∀ w,At B h0 Γ (fun k=>bif Nat.beq 4998 k then some (recQ l (WM r)) else Λ k) F n a w→body.sF (some l) P K a w):∃ w₂,(Instr.beginRound l).run P w = .ok () w₂∧body.sF (some l) P K a w₂:=by
 obtain ⟨h,L,hle,hst,yx,qV,hsz,hdf⟩:=hAt
 obtain ⟨e,hL,rfl⟩:=yx 4998 _ h8
 obtain ⟨hl,hst'⟩:=U9 hst hL (WM r)
 refine ⟨_,run_beginRound hl hr,hk _ ⟨h,_,hle,hst',?_,qV,hsz,hdf⟩⟩
 intro k q hq
 cases hb:Nat.beq 4998 k with
 | true=>simp only [hb,cond_true] at hq;cases hq;rw [jL] at hb;subst hb;exact ⟨_,tV,rfl⟩
 | false =>
  simp only [hb,cond_false] at hq
  have n1:k≠4998:=fun x=>by rw [jL.2 x.symm] at hb;cases hb
  obtain ⟨e1,h2,h3⟩:=yx k q hq
  exact ⟨e1,by simp [set1,n1,h2],h3⟩
theorem retD {fn:Func} {R:Ending→World→Prop} {D:Nat} (hAt:At (B.d (mark D)) h0 Γ Λ F n a w) (h9:Λ 4999=some (TF D))
  (hk:∀ (a:Act) (w:World),At B h0 Γ (fun k=>bif Nat.beq 4999 k then none else Λ k) F n a w→B.df=[]→Ns P fn R .ret a w):B.df=[]→Ns P fn R .ret a w:=by
 intro hB
 obtain ⟨h,L,hle,hst,yx,qV,hsz,hdf⟩:=hAt
 obtain ⟨e,hL,rfl⟩:=yx 4999 _ h9
 obtain ⟨hcl,hok⟩:=hst.own (k:=Sum.inl 4999) hL
 have hD:w.heap[D]? = some (.deferred (some [])):=hok
 have hno:=fun o'=>(hcl (D,0) (by simp [qW])).2.2 o' (Nat.zero_le _)
 have hst':St B h (Sum.elim (fun k=>if k=4999 then none else L k) F) (w.putObj D (.deferred none)):=by
  refine hst.ofD.step (hnf:=hst.ofD.Ph (k:=Sum.inl 4999) hL (by simp [qW])) (Sum.inl 4999) (fun i=>i=D) (fun i hi _=>⟨_,hL,(D,0),by simp [qW],hi.symm⟩) (by simp) rfl rfl rfl (fun i _ hi=>World.putObj_heap_other hi) (og.refl h) (fun _ _ _ _=>rfl) ?_ ?_ ?_
  ·rintro i o' u (rfl | hi) hu
   ·rw [hno o'] at hu;cases hu
   ·rw [hst.fresh hi] at hu;cases hu
  ·intro k' e' hne he
   cases k' with
   | inr x=>exact he
   | inl k =>
    have:k≠4999:=fun x=>hne (by rw [x])
    simpa [this] using he
  ·intro e' he;simp at he
 have hdf':a.defers=[mark D]:=by rw [hdf];show mark D :: B.df=_;rw [hB]
 have:=hk { a with defers:=[] } (w.putObj D (.deferred none)) ⟨h,_,hle,hst',?_,fun s=>qV s,hsz,hB.symm⟩ hB
 ·rcases this with ⟨_,v,h1,h2⟩ | ⟨D',w',h1,_⟩
  ·exact .inr ⟨D,_,hdf',run_takeDeferred hD,v,h1,h2⟩
  ·cases h1
 ·intro k q hq
  cases hb:Nat.beq 4999 k with
  | true=>simp only [hb,cond_true] at hq;cases hq
  | false =>
   simp only [hb,cond_false] at hq
   have n1:k≠4999:=fun x=>by rw [jL.2 x.symm] at hb;cases hb
   obtain ⟨e1,h2,h3⟩:=yx k q hq
   exact ⟨e1,by simp [n1,h2],h3⟩
end
end Go.KB
namespace Go.KB
variable {P:Program}
def zY:List Nat→Bool
 | []=>true
 | k :: r=>!(has r k)&&zY r
def QOk:List (Nat×gG)→KE→Prop
 | (k,q) :: r,(k',e) :: es=>k'=k∧q undef e∧QOk r es
 | [],[]=>True
 | _,_=>False
theorem Va:∀ {l:KE} {k:Nat},has (l.map (·.1)) k=(Jb l k).isSome:=by
 intro l
 induction l with
 | nil=>intro k;rfl
 | cons x r ih =>
  obtain ⟨k0,e⟩:=x
  intro k
  simp only [List.map_cons,has,Jb]
  cases Nat.beq k0 k with
  | true=>rfl
  | false=>simpa using ih
theorem jJu:∀ {l:KE},zY (l.map (·.1))=true→JK l=true:=by
 intro l
 induction l with
 | nil=>intro _;rfl
 | cons x r ih =>
  obtain ⟨k0,e⟩:=x
  intro h
  simp only [List.map_cons,zY,Va,Bool.and_eq_true] at h
  simp only [JK,Bool.and_eq_true]
  exact ⟨h.1,ih h.2⟩
theorem Ui {Λ:Own} {L:Nat→Option iM} {a:Act} (yx:Qb Λ L a):∀ {Qs:List (Nat×gG)},HasQ Λ Qs→GhL Qs→∃ kes:KE,kes.map (·.1)=Qs.map (·.1)∧QOk Qs kes∧∀ p ∈ kes,L p.1=some p.2:=by
 intro Qs
 induction Qs with
 | nil=>intro _ _;exact ⟨[],rfl,trivial,fun p hp=>by cases hp⟩
 | cons x r ih =>
  obtain ⟨k,q⟩:=x
  intro h hg
  obtain ⟨e,hL,hq⟩:=yx k q h.1
  obtain ⟨kes,h1,h2,h3⟩:=ih h.2 hg.2
  refine ⟨(k,e) :: kes,by simp [h1],⟨rfl,hg.1 _ _ _ hq,h2⟩,fun p hp=>?_⟩
  rcases List.mem_cons.1 hp with rfl | hp
  ·exact hL
  ·exact h3 p hp
theorem WN:∀ {Qs:List (Nat×gG)} {kes:KE},QOk Qs kes→kes.map (·.1)=Qs.map (·.1):=by
 intro Qs
 induction Qs with
 | nil=>intro kes h;cases kes with
  | nil=>rfl
  | cons _ _=>exact h.elim
 | cons x r ih =>
  obtain ⟨k,q⟩:=x
  intro kes h
  cases kes with
  | nil=>exact h.elim
  | cons y es=>obtain ⟨k',e⟩:=y;obtain ⟨rfl,_,h3⟩:=h;simp [ih h3]
theorem ZG:∀ {Qs:List (Nat×gG)} {kes:KE},QOk Qs kes→GhL Qs→∀ {k q},HY Qs k=some q→∃ e,Jb kes k=some e∧∀ v,q v e:=by
 intro Qs
 induction Qs with
 | nil=>intro kes _ _ k q h;cases h
 | cons x r ih =>
  obtain ⟨k0,q0⟩:=x
  intro kes h hg k q hq
  cases kes with
  | nil=>exact h.elim
  | cons y es =>
   obtain ⟨k',e⟩:=y
   obtain ⟨rfl,h2,h3⟩:=h
   simp only [HY,Yw] at hq
   simp only [Jb]
   cases hb:Nat.beq k' k with
   | true=>rw [hb] at hq;cases hq;exact ⟨e,rfl,fun v=>hg.1 _ _ _ h2⟩
   | false=>rw [hb] at hq;exact ih h3 hg.2 hq
def Pj:List (Nat×gG)→List Nat→List Po→List (Nat×gG)
 | _ :: r,g :: gs,.to q :: ps=>(g,q) :: Pj r gs ps
 | (_,q) :: r,g :: gs,.keep :: ps=>(g,q) :: Pj r gs ps
 | _ :: r,_ :: gs,.gone :: ps=>Pj r gs ps
 | _,_,_=>[]
theorem jXg {E:Nat→Option iM} {g:Nat→Value}:∀ {pre:List (Nat×gG)} {post:List Po} {gs:List Nat},JI pre post E (WI g)→yU [] [] pre post gs→Jc pre gs=true→∀ {k q},HY (Pj pre gs post) k=some q →
  ∃ e k',GH pre gs k=some k'∧E k'=some e∧∀ v,q v e:=by
 intro pre
 induction pre with
 | nil=>intro post gs _ hk _ k q h;cases post <;> cases gs <;> first | exact hk.elim | cases h
 | cons x r ih =>
  obtain ⟨k0,q0⟩:=x
  intro post gs hp hk hc k q hq
  cases post with
  | nil=>cases gs <;> exact hk.elim
  | cons p ps=>cases gs with
   | nil=>exact hk.elim
   | cons g0 gs =>
    obtain ⟨h1,h2⟩:=hk
    simp only [Jc,Bool.and_eq_true,Bool.not_eq_true'] at hc
    have tail:HY (Pj r gs ps) k=some q→∃ e k',GH ((k0,q0) :: r) (g0 :: gs) k=some k'∧E k'=some e∧∀ v,q v e:=fun hq=>by
     obtain ⟨e,k',h3,h4,h5⟩:=ih hp.2 h2 hc.2 hq
     have h6:=(U6 h3).1
     have:Nat.beq g0 k=false:=by
      rw [Bool.eq_false_iff,Ne,jL];intro e;subst e;rw [h6] at hc;exact absurd hc.1.1.1 (by simp)
     exact ⟨e,k',by simp only [GH,this,cond_false];exact h3,h4,h5⟩
    have one:∀ q':gG,Gh q'→(∃ e,E k0=some e∧q' (WI g k0) e)→HY ((g0,q') :: Pj r gs ps) k=some q→∃ e k',GH ((k0,q0) :: r) (g0 :: gs) k=some k'∧E k'=some e∧∀ v,q v e:=by
     rintro q' hgh ⟨e,he,hqe⟩ hq
     simp only [HY,Yw] at hq
     cases hb:Nat.beq g0 k with
     | false=>rw [hb] at hq;exact tail hq
     | true =>
      rw [hb] at hq;cases hq
      exact ⟨e,k0,by simp only [GH,hb,cond_true],he,fun v=>hgh _ _ _ hqe⟩
    have hgh:Gh q0∧∀ q',p = .to q'→Gh q':=by
     rcases h1 with ⟨_,hg,hg'⟩ | ⟨_,x,hx,_⟩
     ·exact ⟨hg,hg'⟩
     ·simp at hx
    cases p with
    | gone=>exact tail hq
    | to q'=>exact one q' (hgh.2 q' rfl) hp.1 hq
    | keep=>exact one q0 hgh.1 hp.1 hq
theorem YG {l1 l2:List (Nat×gG)} {k:Nat}:HY (l1 ++ l2) k=(match HY l1 k with | some q=>some q | none=>HY l2 k):=by
 induction l1 with
 | nil=>rfl
 | cons x r ih =>
  obtain ⟨k0,q⟩:=x
  simp only [HY,List.cons_append,Yw] at ih ⊢
  cases Nat.beq k0 k with
  | true=>rfl
  | false=>exact ih
theorem ZH:∀ {l:List (Nat×gG)} {k:Nat} {q:gG},HY l k=some q→has (l.map (·.1)) k=true:=by
 intro l
 induction l with
 | nil=>intro k q h;cases h
 | cons x r ih =>
  obtain ⟨k0,q0⟩:=x
  intro k q h
  simp only [HY,Yw] at h
  simp only [List.map_cons,has,Bool.or_eq_true]
  cases hb:Nat.beq k0 k with
  | true=>exact .inl rfl
  | false=>rw [hb] at h;exact .inr (ih h)
theorem jXb:∀ {pre:List (Nat×gG)} {gs:List Nat} {ps:List Po} {k:Nat},has ((Pj pre gs ps).map (·.1)) k=true→has gs k=true:=by
 intro pre
 induction pre with
 | nil=>intro gs ps k h;cases gs <;> cases ps <;> cases h
 | cons x r ih =>
  obtain ⟨k0,q0⟩:=x
  intro gs ps k h
  cases gs with
  | nil=>cases ps <;> cases h
  | cons g gs=>cases ps with
   | nil=>cases h
   | cons p ps =>
    have two:∀ q:gG,has (((g,q) :: Pj r gs ps).map (·.1)) k=true→has (g :: gs) k=true:=by
     intro q h
     simp only [List.map_cons,has,Bool.or_eq_true] at h
     simp only [has,Bool.or_eq_true]
     exact h.imp id ih
    cases p with
    | gone=>simp only [Pj] at h;simp only [has,ih h,Bool.or_true]
    | to q=>exact two q h
    | keep=>exact two q0 h
def RX:List Nat→List bF→List (Nat×bF)
 | p :: ps,f :: fs=>(p,f) :: RX ps fs
 | _,_=>[]
def YH:List (Nat×bF)→Bool
 | []=>true
 | (_,f) :: r=>f.dep.isNone&&YH r
theorem Pm:∀ {l:List (Nat×bF)} {s:Nat},YH l=true→(KZ l s).dep=none:=by
 intro l
 induction l with
 | nil=>intro s _;rfl
 | cons x r ih =>
  obtain ⟨k,f⟩:=x
  intro s h
  simp only [YH,Bool.and_eq_true] at h
  simp only [KZ,U5]
  cases hb:Nat.beq k s with
  | true =>
   rw [cond_true]
   cases hd:f.dep with
   | none=>rfl
   | some d=>rw [hd] at h;cases h.1
  | false=>exact ih h.2
theorem jJg {h:H} {Γl:List (Nat×bF)}:∀ {ps:List Nat} {A:List bF} {vs:List Value} (tmps:Array Value),zY ps=true→(∀ p ∈ ps,p<tmps.size)→A.length=ps.length→vs.length=ps.length→rO A=true→(∀ s,(KZ Γl s).p h undef (tmps.getD s undef))→(∀ (j:Nat) (g:bF) (v:Value),A[j]? = some g→vs[j]? = some v→g.p h undef v) →
  ∀ s,(KZ (RX ps A ++ Γl) s).p h undef (((ps.zip vs).foldl (fun t (p:Nat×Value)=>t.setIfInBounds p.1 p.2) tmps).getD s undef):=by
 intro ps
 induction ps with
 | nil=>intro A vs tmps _ _ hA _ _ hG _ s;cases A with
  | nil=>exact hG s
  | cons _ _=>simp at hA
 | cons p ps ih =>
  intro A vs tmps hn hlt hA hv hd hG hargs s
  cases A with
  | nil=>simp at hA
  | cons f A=>cases vs with
   | nil=>simp at hv
   | cons v vs =>
    simp only [zY,Bool.and_eq_true,Bool.not_eq_true'] at hn
    simp only [rO,Bool.and_eq_true] at hd
    -- the others first: p keeps its value
    have keep:∀ (ps:List Nat) (vs:List Value) (t:Array Value),has ps p=false→((ps.zip vs).foldl (fun t (p:Nat×Value)=>t.setIfInBounds p.1 p.2) t).getD p undef=t.getD p undef:=by
     intro ps
     induction ps with
     | nil=>intro vs t _;rfl
     | cons p' ps ih' =>
      intro vs t hh
      cases vs with
      | nil=>rfl
      | cons v' vs =>
       simp only [has,Bool.or_eq_false_iff] at hh
       simp only [List.zip_cons_cons,List.foldl_cons]
       rw [ih' vs _ hh.2]
       have:p'≠p:=fun e=>by rw [jL.2 e] at hh;cases hh.1
       simp [Array.getD_eq_getD_getElem?,Array.getElem?_setIfInBounds_ne this]
    simp only [List.zip_cons_cons,List.foldl_cons,RX,List.cons_append]
    show (bif Nat.beq p s then f else KZ (RX ps A ++ Γl) s).p h undef _
    cases hb:Nat.beq p s with
    | true =>
     rw [jL] at hb;subst hb
     rw [keep ps vs _ hn.1]
     have hp:=hlt p (by simp)
     have:(tmps.setIfInBounds p v).getD p undef=v:=by simp [Array.getD_eq_getD_getElem?,hp]
     rw [this]
     exact hargs 0 f v rfl rfl
    | false =>
     rw [cond_false]
     -- facts on p itself are not asked for any more
     have hps:p≠s:=fun e=>by rw [jL.2 e] at hb;cases hb
     have key:∀ (ps:List Nat) (A:List bF) (vs:List Value) (t t':Array Value),t.size=t'.size→(∀ k,k≠p→t.getD k undef=t'.getD k undef)→∀ k,k≠p→((ps.zip vs).foldl (fun t (q:Nat×Value)=>t.setIfInBounds q.1 q.2) t).getD k undef=((ps.zip vs).foldl (fun t (q:Nat×Value)=>t.setIfInBounds q.1 q.2) t').getD k undef:=by
      intro ps
      induction ps with
      | nil=>intro _ vs t t' _ h k hk;exact h k hk
      | cons p' ps ih' =>
       intro A vs t t' hs h k hk
       cases vs with
       | nil=>exact h k hk
       | cons v' vs =>
        simp only [List.zip_cons_cons,List.foldl_cons]
        refine ih' A vs _ _ (by simp [hs]) (fun m hm=>?_) k hk
        by_cases hpm:p'=m
        ·subst hpm
         by_cases hlt:p'<t.size
         ·simp [Array.getD_eq_getD_getElem?,hlt,hs ▸ hlt]
         ·simp [Array.getD_eq_getD_getElem?,hlt,show ¬p'<t'.size by omega]
        ·have:=h m hm
         simpa [Array.getD_eq_getD_getElem?,Array.getElem?_setIfInBounds_ne hpm] using this
     rw [key ps A vs (tmps.setIfInBounds p v) tmps (by simp) (fun k hk=>by simp [Array.getD_eq_getD_getElem?,Array.getElem?_setIfInBounds_ne (Ne.symm hk)]) s (Ne.symm hps)]
     exact ih tmps hn.2 (fun q hq=>hlt q (List.mem_cons_of_mem _ hq)) (by simpa using hA) (by simpa using hv) hd.2 hG (fun j g u hg hu=>hargs (j+1) g u hg hu) s
theorem YI {ps:List Nat}:∀ {vs:List Value} {t:Array Value},((ps.zip vs).foldl (fun t (p:Nat×Value)=>t.setIfInBounds p.1 p.2) t).size=t.size:=by
 induction ps with
 | nil=>intro vs t;rfl
 | cons p ps ih=>intro vs t;cases vs with
  | nil=>rfl
  | cons v vs=>simp only [List.zip_cons_cons,List.foldl_cons];rw [ih];simp
theorem Uj:∀ {js:List Exit} {k:Nat},ZF js=true→k<js.length→∃ c,cdOf (js.getD k .normal)=some c:=by
 intro js
 induction js with
 | nil=>intro k _ h;cases h
 | cons e r ih =>
  intro k h hk
  simp only [ZF,Bool.and_eq_true] at h
  cases k with
  | zero=>exact Option.isSome_iff_exists.1 h.1
  | succ k=>simpa using ih h.2 (by simpa using hk)
theorem jVa {e:Exit} {c:Code} {Q:Exit→Act→World→Prop} {a:Act} {w:World} (hc:cdOf e=some c) (hq:Q e a w):c.wpIn (Tv none) 0 P Q a w:=by
 cases e <;> cases hc
 ·exact wpIn_exit hq
 ·exact wpIn_ret hq
section
variable {κ:Type} {B:Base} {h0:H} {Λ:Own} {F:κ→Option iM} {n:Nat} {a:Act} {w:World}
theorem TW {S ι:Type} {gf:FuncId} {fn:Func} {C:List bF} {t:Nat} {ps:List Nat} {assign body:Code} {Γl:List (Nat×bF)} {Qq:S→List (Nat×gG)} {A:ι→List bF} {g:S→ι→Option (S×Option Nat)} {js:List Exit} {s0 s:S} {j:Option Nat}
  {Oi:List (Nat×gG)} {Oj:List Po} {gI ks:List Nat} {Qx:Exit→Act→World→Prop}
  (hAt:At B h0 (KZ Γl) Λ F n a w) (ht:KZ Γl t=oN gf C) (hf:P.funcs[gf]? = some fn) (hbd:xY fn=true)
  (hit:∀ YE:S×Option Nat→iM→Prop,kY P gf (VS P A YE (yl g js.length) :: C) ((5000,yE YE (s0,none)) :: Oi) (Po.to (yE YE (s,j)) :: Oj) none XK)
  (hQ0:HasQ Λ (Qq s0)) (hks:∀ s,(Qq s).map (·.1)=ks) (hG:∀ s,GhL (Qq s)) (hI:HasQ Λ (WH Oi gI)) (hIk:yU [] [] Oi Oj gI)
  (yC:(zY (4997 :: 4998 :: 4999 :: (ks ++ gI))&&YH Γl&&zY ps&&ps.all (fun p=>Nat.blt p n)&&ZF js)=true) (hcc:∀ q,Jc ((5000,q) :: Oi) (4997 :: gI)=true) (hA:∀ i,(A i).length=ps.length∧rO (A i)=true)
  (hround:∀ (s:S) (i:ι) (s':S) (j:Option Nat),g s i=some (s',j)→∀ (κ:Type) (B:Base) (h0:H) (F:κ→Option iM) (l:Nat) (r:Loop) (D:Nat) (a:Act) (w:World),r.state = .ready→At B h0 (KZ (RX ps (A i) ++ Γl)) (HY ((4998,recQ l r) :: (4999,TF D) :: Qq s)) F n a w →
   assign.sF (some l) P (Exit.then (fun a₁ w₁=>∃ w₂,(Instr.beginRound l).run P w₁ = .ok () w₂∧body.sF (some l) P (RoundP n B h0 F l r D (Qq s') js j) a₁ w₂) (fun _ _ _=>False)) a w)
  (hdone:∀ (D:Nat) (a:Act) (w:World),At (B.d (mark D)) h0 (KZ Γl) (HY ((4999,TF D) :: (Qq s ++ Pj Oi gI Oj))) F n a w→Qx (xOf js j) a w):(Code.rangeFunc (.tmp t) ps.toArray assign body).sF none P Qx a w:=by
 simp only [Bool.and_eq_true] at yC
 obtain ⟨⟨⟨⟨hnd,hdG⟩,hnp⟩,hpl⟩,hjs⟩:=yC
 simp only [xY,Bool.and_eq_true,Bool.not_eq_true'] at hbd
 have hbody:fn.body≠none:=by
  intro hx;rw [hx] at hbd;cases hbd.1
 have hname:fn.name ≠ "runtime.NumGoroutine":=by simpa using hbd.2
 obtain ⟨h,L,hle,hst,yx,qV,hsz,hdf⟩:=hAt
 have htv:=qV t
 rw [ht] at htv
 obtain ⟨cap,hv,hcap⟩:=htv
 have hv:a.eval (.tmp t) = .func (.func gf) #[] cap.toArray:=hv
 refine wpIn_rangeFunc (F:=Tv none) (n:=0) ?_
 intro fnid _
 obtain ⟨BK,RY⟩:∃ BK:Loop,BK={ state:=.ready,pending:=none,fn:=fnid,tmps:=a.tmps,params:=ps.toArray,assign,body,defers:=w.heap.size }:=⟨_,rfl⟩
 obtain ⟨D,hD⟩:∃ D,w.heap.size=D:=⟨_,rfl⟩
 obtain ⟨l,hl⟩:∃ l,w.heap.size+1=l:=⟨_,rfl⟩
 refine ⟨w.heap.size+1,[mark w.heap.size],(w.alloc (.deferred (some []))).alloc (.loop BK),{ target:=.fn (.func gf) cap.toArray,args:=#[.func (.yield (w.heap.size+1)) #[] #[]] },(w.alloc (.deferred (some []))).alloc (.loop BK),gf,
  #[.func (.yield (w.heap.size+1)) #[] #[]] ++ cap.toArray,(w.alloc (.deferred (some []))).alloc (.loop BK),by rw [RY];exact run_enterLoop_outer _ _ _ _ _,?_,fun _ _=>trivial,?_,fun hh=>(by cases hh),Pn.2 ?_⟩
 ·simp only [resolve,hv]
  simp [go_sem]
 ·simp [invoke,callFunc,hf,hname,hbody]
 -- the keys
 have hn3:has (ks ++ gI) 4997=false∧has (ks ++ gI) 4998=false∧has (ks ++ gI) 4999=false∧zY (ks ++ gI)=true:=by
  simp only [zY,has,Bool.and_eq_true,Bool.not_eq_true',Bool.or_eq_false_iff] at hnd
  exact ⟨hnd.1.2.2,hnd.2.1.2,hnd.2.2.1,hnd.2.2.2⟩
 have QV:∀ (x y:List Nat) (k:Nat),has (x ++ y) k=(has x k||has y k):=by
  intro x y k
  induction x with
  | nil=>rfl
  | cons z x ih=>simp only [List.cons_append,has,ih,Bool.or_assoc]
 have hdisj:∀ k,has ks k=true→has gI k=true→False:=by
  have:∀ (x y:List Nat),zY (x ++ y)=true→∀ k,has x k=true→has y k=true→False:=by
   intro x
   induction x with
   | nil=>intro y _ k h;cases h
   | cons z x ih =>
    intro y hn k h1 h2
    simp only [List.cons_append,zY,Bool.and_eq_true,Bool.not_eq_true'] at hn
    simp only [has,Bool.or_eq_true] at h1
    rcases h1 with h1 | h1
    ·rw [jL] at h1;subst h1
     rw [QV,h2,Bool.or_true] at hn;cases hn.1
    ·exact ih y hn.2 k h1 h2
  exact this ks gI hn3.2.2.2
 have YJ:∀ (x y:List Nat),zY (x ++ y)=true→zY x=true:=by
  intro x
  induction x with
  | nil=>intro y _;rfl
  | cons z x ih =>
   intro y hn
   simp only [List.cons_append,zY,Bool.and_eq_true,Bool.not_eq_true'] at hn
   rw [QV,Bool.or_eq_false_iff] at hn
   simp only [zY,Bool.and_eq_true,Bool.not_eq_true']
   exact ⟨hn.1.1,ih y hn.2⟩
 have hks':has ks 4997=false∧has ks 4998=false∧has ks 4999=false∧zY ks=true:=by
  have h1:=hn3.1;have h2:=hn3.2.1;have h3:=hn3.2.2.1
  rw [QV,Bool.or_eq_false_iff] at h1 h2 h3
  exact ⟨h1.1,h2.1,h3.1,YJ _ _ hn3.2.2.2⟩
 have hgI':has gI 4997=false∧has gI 4998=false∧has gI 4999=false:=by
  have h1:=hn3.1;have h2:=hn3.2.1;have h3:=hn3.2.2.1
  rw [QV,Bool.or_eq_false_iff] at h1 h2 h3
  exact ⟨h1.2,h2.2,h3.2⟩
 have nd:∀ {s:S} {kes:KE} (r:Loop),QOk (Qq s) kes→JK ((4998,nZ l r) :: (4999,qW D) :: kes)=true:=by
  intro s kes r hq
  refine jJu ?_
  have h1:=(WN hq).trans (hks s)
  simp only [List.map_cons,h1,zY,has,hks'.2.1,hks'.2.2.1,hks'.2.2.2]
  rfl
 -- the state of the loop as an entry
 obtain ⟨DL,LM⟩:∃ DL:Option Nat→Loop,DL=fun x=>match x with | none=>BK | some k=>{ BK with state:=.done,pending:=cdOf (js.getD k .normal) }:=⟨_,rfl⟩
 obtain ⟨YE,hYE⟩:∃ YE:S×Option Nat→iM→Prop,YE=fun x e=>(∀ k,x.2=some k→k<js.length)∧∃ kes,QOk (Qq x.1) kes∧J8 ((4998,nZ l (DL x.2)) :: (4999,qW D) :: kes)∧e=yT ((4998,nZ l (DL x.2)) :: (4999,qW D) :: kes):=⟨_,rfl⟩
 have lkQ:∀ {s:S} {kes:KE} (r:Loop) {k:Nat},QOk (Qq s) kes→has ks k=false→k≠4998→k≠4999→Jb ((4998,nZ l r) :: (4999,qW D) :: kes) k=none:=by
  intro s kes r k hq hk h8 h9
  have h1:=Va (l:=kes) (k:=k)
  rw [(WN hq).trans (hks s),hk] at h1
  have n8:Nat.beq 4998 k=false:=by rw [Bool.eq_false_iff,Ne,jL];exact fun x=>h8 x.symm
  have n9:Nat.beq 4999 k=false:=by rw [Bool.eq_false_iff,Ne,jL];exact fun x=>h9 x.symm
  simp only [Jb,n8,n9,cond_false]
  cases hl:Jb kes k with
  | none=>rfl
  | some e=>rw [hl] at h1;cases h1
 have lkQ2:∀ {kes:KE} (r:Loop) {k:Nat},k≠4998→k≠4999→Jb ((4998,nZ l r) :: (4999,qW D) :: kes) k=Jb kes k:=by
  intro kes r k h8 h9
  have n8:Nat.beq 4998 k=false:=by rw [Bool.eq_false_iff,Ne,jL];exact fun x=>h8 x.symm
  have n9:Nat.beq 4999 k=false:=by rw [Bool.eq_false_iff,Ne,jL];exact fun x=>h9 x.symm
  simp only [Jb,n8,n9,cond_false]
 have ne8:∀ {k:Nat},has ks k=true→k≠4997∧k≠4998∧k≠4999:=fun {k} hk=>⟨fun e=>(by rw [e,hks'.1] at hk;cases hk),fun e=>(by rw [e,hks'.2.1] at hk;cases hk),fun e=>(by rw [e,hks'.2.2.1] at hk;cases hk)⟩
 have ne8I:∀ {k:Nat},has gI k=true→k≠4997∧k≠4998∧k≠4999:=fun {k} hk=>⟨fun e=>(by rw [e,hgI'.1] at hk;cases hk),fun e=>(by rw [e,hgI'.2.1] at hk;cases hk),fun e=>(by rw [e,hgI'.2.2] at hk;cases hk)⟩
 -- the start
 have hst1:=hst.DI (.deferred (some [])) 4999 (qW D) (by intro c hc;simp [qW] at hc;rw [hc,hD]) (by show World.mem _ D=_;rw [← hD];exact DJ _ _)
 have hst2:=hst1.DI (.loop BK) 4998 (nZ l BK) (by intro c hc;simp [nZ] at hc;rw [hc,← hl];simp) (by show World.mem _ l=_;rw [← hl];have:=DJ (w.alloc (.deferred (some []))) (.loop BK);rwa [World.size_alloc] at this)
 obtain ⟨kes,hk1,hk2,hk3⟩:=Ui yx hQ0 (hG s0)
 have hkm:∀ p ∈ kes,has ks p.1=true:=by
  intro p hp
  have:=Va (l:=kes) (k:=p.1)
  rw [hk1.trans (hks s0),Oz (k:=p.1) (e:=p.2) hp] at this
  exact this
 have hL2:∀ p ∈ ((4998,nZ l BK) :: (4999,qW D) :: kes),(set1 (set1 L 4999 (qW D)) 4998 (nZ l BK)) p.1=some p.2:=by
  intro p hp
  rcases List.mem_cons.1 hp with rfl | hp
  ·simp [set1]
  ·rcases List.mem_cons.1 hp with rfl | hp
   ·simp [set1]
   ·have h1:=ne8 (hkm p hp)
    simp [set1,h1.2.1,h1.2.2,hk3 p hp]
 have hdj:=U3 hst2 hL2 (nd BK hk2)
 have hst3:=hst2.yT 4997 hL2
 have hcap':(#[.func (.yield (w.heap.size+1)) #[] #[]] ++ cap.toArray:Array Value)=(Value.func (.yield l) #[] #[] :: cap).toArray:=by rw [← hl];apply Array.ext';simp
 rw [hcap']
 -- a round
 have hyl:YlOk P A YE (yl g js.length) h l:=by
  intro i x x' b hY κ' B' L' h1 w1 vs e hle1 hr1 hye hlen hargs
  subst hYE
  obtain ⟨xs,xj⟩:=x
  have hxj:xj=none:=by
   cases xj with
   | none=>rfl
   | some _=>cases hY
  subst hxj
  obtain ⟨_,kes1,hq1,hd1,rfl⟩:=hye
  have hro:DL none=BK:=by rw [LM]
  simp only [hro] at hd1 hr1
  cases hg:g xs i with
  | none=>simp only [yl,hg] at hY;cases hY
  | some y =>
   obtain ⟨s',j'⟩:=y
   have hjb:x'=(s',j')∧b=j'.isNone∧∀ k,j'=some k→k<js.length:=by
    simp only [yl,hg] at hY
    cases j' with
    | none=>cases hY;exact ⟨rfl,rfl,fun k hk=>(by cases hk)⟩
    | some k =>
     simp only [] at hY
     cases hb:Nat.blt k js.length with
     | false=>rw [hb] at hY;cases hY
     | true =>
      rw [hb] at hY;cases hY
      rw [Nat.blt_eq] at hb
      exact ⟨rfl,rfl,fun k' hk=>(by cases hk;exact hb)⟩
   obtain ⟨rfl,rfl,hjlt⟩:=hjb
   have hr2:St B' h1 (Sum.elim (fun k:Nat=>if k=4997 then some (yT ((4998,nZ l BK) :: (4999,qW D) :: kes1)) else none) L') w1:=by
    refine hr1.H8 (fun k=>match k with | .inl _=>.inl () | .inr x=>.inr x) ?_ ?_
    ·intro k e he
     cases k with
     | inr x=>exact he
     | inl k =>
      simp only [Sum.elim_inl] at he
      split at he
      ·exact he
      ·cases he
    ·intro k k' e e' hk hk' hne
     cases k with
     | inr x=>cases k' with
      | inr x'=>intro he;exact hne (by rw [Sum.inr.inj he])
      | inl k'=>intro he;cases he
     | inl k=>cases k' with
      | inr x'=>intro he;cases he
      | inl k' =>
       intro _
       simp only [Sum.elim_inl] at hk hk'
       split at hk
       ·split at hk'
        ·rename_i h1 h2;exact hne (by rw [h1,h2])
        ·cases hk'
       ·cases hk
   have hr3:=hr2.splitK (l:=(4998,nZ l BK) :: (4999,qW D) :: kes1) (g:=4997) (by simp) hd1
   have hl1:w1.heap[l]? = some (.loop BK):=(hr3.own (k:=Sum.inl 4998) (e:=nZ l BK) rfl).2
   refine ⟨fnid,_,assign,body,by have:=run_yield (P:=P) (args:=vs.toArray) hl1 (by rw [RY];simp [← hlen,(hA i).1]);rw [RY] at this;exact this,roundIn_of_wpIn trivial ?_⟩
   have hfold:∀ (t:Array Value),(ps.toArray.zip vs.toArray).foldl (fun tmps (x:Nat×Value)=>tmps.setIfInBounds x.1 x.2) t=(ps.zip vs).foldl (fun t (p:Nat×Value)=>t.setIfInBounds p.1 p.2) t:=by
    intro t
    rw [← Array.foldl_toList]
    congr 1
    simp
   have hact:At B'.e h1 (KZ (RX ps (A i) ++ Γl)) (HY ((4998,recQ l BK) :: (4999,TF D) :: Qq xs)) L' n { tmps:=(ps.toArray.zip vs.toArray).foldl (fun tmps (x:Nat×Value)=>tmps.setIfInBounds x.1 x.2) a.tmps,defers:=[] } w1:=by
    refine ⟨h1,_,og.refl h1,hr3.toE,?_,?_,?_,rfl⟩
    ·intro k q hq
     simp only [HY,Yw] at hq
     cases hb8:Nat.beq 4998 k with
     | true=>rw [hb8] at hq;cases hq;rw [jL] at hb8;subst hb8;exact ⟨_,rfl,rfl⟩
     | false =>
      rw [hb8] at hq
      cases Ig:Nat.beq 4999 k with
      | true=>rw [Ig] at hq;cases hq;rw [jL] at Ig;subst Ig;exact ⟨_,rfl,rfl⟩
      | false =>
       rw [Ig] at hq
       obtain ⟨e,he,hqv⟩:=ZG hq1 (hG xs) hq
       refine ⟨e,?_,hqv _⟩
       have n8:k≠4998:=fun x=>by rw [jL.2 x.symm] at hb8;cases hb8
       have n9:k≠4999:=fun x=>by rw [jL.2 x.symm] at Ig;cases Ig
       simp only [lkQ2 BK n8 n9,he]
    ·intro s1
     have:=jJg (h:=h1) (ps:=ps) (A:=A i) (vs:=vs) a.tmps hnp (fun p hp=>by have:=List.all_eq_true.1 hpl p hp;rw [Nat.blt_eq] at this;rw [hsz];exact this) (hA i).1 (by rw [← hlen,(hA i).1]) (hA i).2 (fun s2=>by
      have h2:=qV s2
      unfold bF.at bF.dv at h2
      rw [Pm hdG] at h2
      exact (KZ Γl s2).mono hle1 h2) hargs s1
     unfold bF.at bF.dv
     have hdp:(KZ (RX ps (A i) ++ Γl) s1).dep=none:=by
      have:YH (RX ps (A i) ++ Γl)=true:=by
       have:∀ (ps:List Nat) (A:List bF),rO A=true→YH (RX ps A ++ Γl)=true:=by
        intro ps
        induction ps with
        | nil=>intro A _;exact hdG
        | cons p ps ih =>
         intro A hA
         cases A with
         | nil=>exact hdG
         | cons f A =>
          simp only [rO,Bool.and_eq_true] at hA
          simp only [RX,List.cons_append,YH,Bool.and_eq_true]
          exact ⟨hA.1,ih A hA.2⟩
       exact this ps (A i) (hA i).2
      exact Pm this
     rw [hdp]
     show (KZ (RX ps (A i) ++ Γl) s1).p h1 undef (Array.getD _ s1 undef)
     rw [hfold];exact this
    ·show Array.size _=n
     rw [hfold,YI];exact hsz
   refine wpIn_mono (hround xs i s' j' hg κ' B'.e h1 L' l BK D _ w1 (by rw [RY]) hact) ?_
   intro e1 a1 w2 hq2
   cases e1 <;> first | exact hq2.elim | skip
   obtain ⟨w3,hb3,hbd3⟩:=hq2
   refine ⟨w3,hb3,wpIn_mono hbd3 ?_⟩
   rintro e2 a2 w4 ⟨hx2,Γ2,Λ2,⟨h2,L2,hle2,hst4,hOw2,hsat2,_,_⟩,h8,h9,hQ2⟩
   obtain ⟨e8,hL8,rfl⟩:=hOw2 4998 _ h8
   obtain ⟨e9,hL9,rfl⟩:=hOw2 4999 _ h9
   obtain ⟨kes2,hk21,hk22,hk23⟩:=Ui hOw2 hQ2 (hG s')
   have hkm2:∀ p ∈ kes2,has ks p.1=true:=by
    intro p hp
    have:=Va (l:=kes2) (k:=p.1)
    rw [hk21.trans (hks s'),Oz (k:=p.1) (e:=p.2) hp] at this
    exact this
   have fin:∀ (jump:Option Code) (r':Loop),r'={ WM BK with state:=if jump.isNone then .ready else .done,pending:=jump }→DL j'=r'→jump.isNone=j'.isNone →
     ∃ v w',(Instr.endRound l jump).run P w4 = .ok v w'∧∃ h'' e',(Ending.returned v) = .returned (.bool j'.isNone)∧og h1 h''∧St B' h'' (Sum.elim (fun _:Unit=>some e') L') w'∧((∀ k,(s',j').2=some k→k<js.length)∧∃ kes,QOk (Qq (s',j').1) kes∧J8 ((4998,nZ l (DL (s',j').2)) :: (4999,qW D) :: kes)∧e'=yT ((4998,nZ l (DL (s',j').2)) :: (4999,qW D) :: kes)):=by
    intro jump r' hr' hro' hji
    obtain ⟨hl4,hst5⟩:=U9 hst4 hL8 r'
    have hL5:∀ p ∈ ((4998,nZ l r') :: (4999,qW D) :: kes2),(set1 L2 4998 (nZ l r')) p.1=some p.2:=by
     intro p hp
     rcases List.mem_cons.1 hp with rfl | hp
     ·simp [set1]
     ·rcases List.mem_cons.1 hp with rfl | hp
      ·simp [set1,hL9]
      ·have h1:=ne8 (hkm2 p hp)
       simp [set1,h1.2.1,hk23 p hp]
    have hdj5:=U3 hst5 hL5 (nd r' hk22)
    have hst6:=(hst5.yT 4997 hL5).one 4997 (e:=yT ((4998,nZ l r') :: (4999,qW D) :: kes2)) (by simp)
    refine ⟨.bool jump.isNone,w4.putObj l (.loop r'),by have:=run_endRound (P:=P) jump hl4;rw [hr'];exact this,h2,_,by rw [hji],hle2,hst6.ofE,hjlt,kes2,hk22,?_,?_⟩
    ·show J8 ((4998,nZ l (DL j')) :: _);rw [hro'];exact hdj5
    ·show _=yT ((4998,nZ l (DL j')) :: _);rw [hro']
   cases j' with
   | none =>
    have:e2 = .normal:=hx2.symm
    subst this
    obtain ⟨v,w5,hrun,hR⟩:=fin none BK (by rw [RY];rfl) (by rw [LM]) rfl
    exact ⟨v,w5,hrun,hR⟩
   | some k =>
    have hx2:js.getD k .normal=e2:=hx2
    obtain ⟨c,hc⟩:=Uj hjs (hjlt k rfl)
    obtain ⟨v,w5,hrun,hR⟩:=fin (some c) { WM BK with state:=.done,pending:=some c } rfl (by rw [LM];simp only [];rw [hc];rfl) rfl
    rw [hx2] at hc
    cases e2 <;> cases hc
    ·exact ⟨v,w5,hrun,hR⟩
    ·exact ⟨v,w5,hrun,hR⟩
 -- the call
 have hpre:RQ ((5000,yE YE (s0,none)) :: Oi) (fun k=>(toC ((5000,yE YE (s0,none)) :: Oi) (4997 :: gI) k).bind (fun k=>if k=4997 then some (yT ((4998,nZ l BK) :: (4999,qW D) :: kes)) else if (Jb ((4998,nZ l BK) :: (4999,qW D) :: kes) k).isSome then none else (set1 (set1 L 4999 (qW D)) 4998 (nZ l BK)) k)) (WI fun k=>(Value.func (.yield l) #[] #[] :: cap).getD k undef):=by
  refine jXu (N:=[]) (xs:=[]) (cap:=Value.func (.yield l) #[] #[] :: cap) (h:=h) (a:=a) (post:=Po.to (yE YE (s,j)) :: Oj) (L:=fun k=>if k=4997 then some (yT ((4998,nZ l BK) :: (4999,qW D) :: kes)) else if (Jb ((4998,nZ l BK) :: (4999,qW D) :: kes) k).isSome then none else (set1 (set1 L 4999 (qW D)) 4998 (nZ l BK)) k) trivial (yU.gh rfl Gh.yE (fun q hq=>by cases hq;exact Gh.yE) hIk) ⟨⟨_,rfl,?_⟩,?_⟩ (fun k gg hk=>by rw [hk];rfl) (hcc _)
  ·subst hYE
   exact ⟨fun k hk=>(by cases hk),kes,hk2,(by rw [LM];exact hdj),(by rw [LM])⟩
  ·have:∀ (pre:List (Nat×gG)) (gs:List Nat),HasQ Λ (WH pre gs)→(∀ k,has gs k=true→has gI k=true)→YC (WH pre gs) (fun k=>if k=4997 then some (yT ((4998,nZ l BK) :: (4999,qW D) :: kes)) else if (Jb ((4998,nZ l BK) :: (4999,qW D) :: kes) k).isSome then none else (set1 (set1 L 4999 (qW D)) 4998 (nZ l BK)) k) a:=by
    intro pre
    induction pre with
    | nil=>intro gs _ _;trivial
    | cons x r ih =>
     obtain ⟨k0,q0⟩:=x
     intro gs hq hm
     cases gs with
     | nil=>trivial
     | cons g0 gs =>
      refine ⟨?_,ih gs hq.2 (fun k hk=>hm k (by simp only [has,hk,Bool.or_true]))⟩
      obtain ⟨e,he,hqe⟩:=yx g0 q0 hq.1
      have hg0:has gI g0=true:=hm g0 (by simp only [has,Nat.beq_refl,Bool.true_or])
      have hne:=ne8I hg0
      have hk0:has ks g0=false:=by
       cases hx:has ks g0 with
       | false=>rfl
       | true=>exact (hdisj g0 hx hg0).elim
      refine ⟨e,?_,hqe⟩
      simp only [lkQ BK hk2 hk0 hne.2.1 hne.2.2]
      simp [hne.1,set1,hne.2.1,hne.2.2,he]
   exact this Oi gI hI (fun k hk=>hk)
 refine (callsG (hit YE) (hcc _) hst3 (by simp [hcap.1]) hpre ?_).mono ?_
 ·intro j1 g1 u hg1 hu
  cases j1 with
  | zero=>cases hg1;cases hu;exact ⟨l,rfl,hyl⟩
  | succ j1=>exact hcap.2 j1 g1 u (by simpa using hg1) (by simpa using hu)
 rintro en w5 ⟨v,h5,E5,rfl,hle5,hst5,hpost,_⟩
 obtain ⟨⟨e5,hE5,hye5⟩,hpostI⟩:=hpost
 have hye5:YE (s,j) e5:=hye5
 subst hYE
 obtain ⟨hjlt,kes5,hq5,hd5,rfl⟩:=hye5
 have h47:GH ((5000,yE (fun x e=>(∀ k,x.2=some k→k<js.length)∧∃ kes,QOk (Qq x.1) kes∧J8 ((4998,nZ l (DL x.2)) :: (4999,qW D) :: kes)∧e=yT ((4998,nZ l (DL x.2)) :: (4999,qW D) :: kes)) (s0,none)) :: Oi) (4997 :: gI) 4997=some 5000:=rfl
 have hst6:=hst5.splitK (l:=(4998,nZ l (DL j)) :: (4999,qW D) :: kes5) (g:=4997) (by simp only [h47];exact hE5) hd5
 obtain ⟨Tt,hst7⟩:=U9 hst6 (k:=4998) (l:=l) (r:=DL j) rfl { DL j with state:=.exhausted }
 have hbusy:(DL j).state ≠ .busy:=by
  rw [LM]
  cases j with
  | none=>rw [RY];simp
  | some k=>simp
 have hend:=run_endLoop (P:=P) Tt hbusy
 have hAtE:At (B.d (mark D)) h0 (KZ Γl) (HY ((4999,TF D) :: (Qq s ++ Pj Oi gI Oj))) F n { a with defers:=[mark w.heap.size] ++ a.defers } (w5.putObj l (.loop { DL j with state:=.exhausted })):=by
  refine ⟨h5,_,hle.trans hle5,hst7.toD,?_,?_,hsz,by rw [hD,hdf];rfl⟩
  ·intro k q hq
   simp only [HY,Yw] at hq
   cases Ig:Nat.beq 4999 k with
   | true=>rw [Ig] at hq;cases hq;rw [jL] at Ig;subst Ig;exact ⟨qW D,rfl,rfl⟩
   | false =>
    rw [Ig,cond_false] at hq
    have hq:HY (Qq s ++ Pj Oi gI Oj) k=some q:=hq
    rw [YG] at hq
    cases hm:HY (Qq s) k with
    | some q1 =>
     rw [hm] at hq;cases hq
     have hhk:=ZH hm
     rw [hks s] at hhk
     have hne:=ne8 hhk
     obtain ⟨e,he,hqv⟩:=ZG hq5 (hG s) hm
     refine ⟨e,?_,hqv _⟩
     simp only [set1,hne.2.1,if_false,lkQ2 _ hne.2.1 hne.2.2,he]
    | none =>
     rw [hm] at hq
     have hq:HY (Pj Oi gI Oj) k=some q:=hq
     have hgk:=jXb (ZH hq)
     have hne:=ne8I hgk
     have hk0:has ks k=false:=by
      cases hx:has ks k with
      | false=>rfl
      | true=>exact (hdisj k hx hgk).elim
     have RZ:=hcc (yE (fun x e=>(∀ k,x.2=some k→k<js.length)∧∃ kes,QOk (Qq x.1) kes∧J8 ((4998,nZ l (DL x.2)) :: (4999,qW D) :: kes)∧e=yT ((4998,nZ l (DL x.2)) :: (4999,qW D) :: kes)) (s0,none))
     simp only [Jc,Bool.and_eq_true] at RZ
     obtain ⟨e,k',h1,h2,h3⟩:=jXg hpostI hIk RZ.2 hq
     refine ⟨e,?_,h3 _⟩
     have n7:Nat.beq 4997 k=false:=by rw [Bool.eq_false_iff,Ne,jL];exact fun x=>hne.1 x.symm
     simp only [set1,hne.2.1,if_false,lkQ _ hq5 hk0 hne.2.1 hne.2.2,hne.1,GH,n7,cond_false,h1,h2]
  ·intro s1
   have h2:=(KZ Γl s1).mono hle5 (qV s1)
   unfold bF.at bF.dv at h2 ⊢
   rw [Pm hdG] at h2 ⊢
   exact h2
 rw [hl]
 cases j with
 | none=>exact ⟨none,_,(by rw [hend];congr 1;rw [LM,RY]),hdone D _ _ hAtE⟩
 | some k =>
  obtain ⟨c,hc⟩:=Uj hjs (hjlt k rfl)
  exact ⟨some c,_,(by rw [hend];congr 1;rw [LM];exact hc),jVa hc (hdone D _ _ hAtE)⟩
end
end Go.KB
