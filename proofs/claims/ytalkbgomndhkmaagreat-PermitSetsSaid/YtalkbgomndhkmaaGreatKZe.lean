/- Functions that use what lies at known places: entries under keys that are slots, or no slots. Ranges over maps that are owned: whatever the order. Ranges over functions: the iterator, yield, the rounds. The rule on ranges over functions. No condition. -/
import Derived.Test.YtalkbgomndhkmaaGreatKZd
import Derived.Maps.RangeRun
import Derived.RangeFuncCalls
import Derived.RangeFuncBound
namespace Go.KB
variable {P:Program} {o:Oper} {N:List (Nat×aY)} {α β γ:Type}
def NJ (vs:Nat→Value) (k:Nat):Value:=bif Nat.ble 5000 k then undef else vs k
def Jm:List (Nat×dW)→(Nat→Option gK)→(Nat→Value)→Prop
 | [],_,_=>True
 | (k,q) :: r,E,g=>(∃ e,E k=some e∧q (g k) e)∧Jm r E g
inductive Po where
 | keep
 | to (q:dW)
 | gone
def Dn:List (Nat×dW)→List Po→(Nat→Option gK)→(Nat→Value)→Prop
 | (k,q0) :: r,p :: ps,E,g=>(match p with | .to q=>∃ e,E k=some e∧q (g k) e | .keep=>∃ e,E k=some e∧q0 (g k) e | .gone=>True)∧Dn r ps E g
 | _,_,_,_=>True
def TN (own:Option dW) (E:Nat→Option gK) (u:Value):Prop:=match own with | some q=>∃ e,E 9999=some e∧q u e | none=>True
def kX (P:Program) (f:FuncId) (args:List aY) (pre:List (Nat×dW)) (post:List Po) (own:Option dW) (res:aY):Prop :=
 ∀ (κ:Type) (B:Base) (L:κ→Option gK) (h:H) (w:World) (vs:List Value) (E:Nat→Option gK),St B h (Sum.elim E L) w→args.length=vs.length→Jm pre E (NJ fun k=>vs.getD k undef) →
  (∀ (j:Nat) (g:aY) (u:Value),args[j]? = some g→vs[j]? = some u→g.p h undef u) →
  Calls P f vs.toArray w (fun e w'=>∃ u h' E',e = .returned u∧lD h h'∧St B h' (Sum.elim E' L) w'∧Dn pre post E' (NJ fun k=>vs.getD k undef)∧TN own E' u∧res.p h' undef u)
def Gn (P:Program) (fn:Func) {κ:Type} (B:Base) (h0:H) (F:κ→Option gK) (vM:Nat→Value) (pre:List (Nat×dW)) (post:List Po) (own:Option dW) (res:aY):Exit→Act→World→Prop :=
 fun e a w=>B.df=[]→Gq P fn (fun e w'=>∃ u h' E',e = .returned u∧lD h0 h'∧St B h' (Sum.elim E' F) w'∧Dn pre post E' (NJ vM)∧TN own E' u∧res.p h' undef u) e a w
theorem Jm.get {E:Nat→Option gK} {g:Nat→Value}:∀ {pre:List (Nat×dW)},Jm pre E g→∀ {k q},BO pre k=some q→∃ e,E k=some e∧q (g k) e:=by
 intro pre
 induction pre with
 | nil=>intro _ k q h;cases h
 | cons x r ih =>
  obtain ⟨k0,q0⟩:=x
  intro h k q hq
  simp only [BO,Qz] at hq
  cases hk:Nat.beq k0 k with
  | true=>rw [hk] at hq;cases hq;rw [gX] at hk;subst hk;exact h.1
  | false=>rw [hk] at hq;exact ih h.2 hq
def Xh (pm:List Nat) (vM:Nat→Value):List (Nat×aY):=pm.map fun i=>(i,jJ (vM i))
theorem Xi {Γ:List (Nat×aY)} {vM:Nat→Value}:∀ {pm:List Nat} {s:Nat},MS (Xh pm vM ++ Γ) s=jJ (vM s)∨MS (Xh pm vM ++ Γ) s=MS Γ s:=by
 intro pm
 induction pm with
 | nil=>intro s;exact .inr rfl
 | cons i r ih =>
  intro s
  show (bif Nat.beq i s then jJ (vM i) else MS (Xh r vM ++ Γ) s)=_∨(bif Nat.beq i s then jJ (vM i) else MS (Xh r vM ++ Γ) s)=_
  cases hk:Nat.beq i s with
  | true=>rw [gX] at hk;subst hk;exact .inl rfl
  | false=>exact ih
theorem Jo {vs:List Value} {m:Nat} (k:Nat):Act.gt { tmps:=vs.toArray ++ Array.replicate m undef,defers:=[] } k=vs.getD k undef:=by
  simp only [Act.gt,Array.getD_eq_getD_getElem?,List.getD_eq_getElem?_getD]
  by_cases hk:k<vs.length
  · rw [Array.getElem?_append_left (by simpa using hk)];simp
  · rw [Array.getElem?_append_right (by simp; omega)]
    simp only [Array.getElem?_replicate,List.getElem?_eq_none (Nat.le_of_not_lt hk)]
    split <;> rfl
theorem fH {n:Nat} {f:FuncId} {fn:Func} {c:Code} {args:List aY} {pre:List (Nat×dW)} {post:List Po} {own:Option dW} {res:aY} (pm:List Nat) (hf:P.funcs[f]? = some fn) (hb:fn.body=some c) (hn:fn.ntmps=n)
  (sW:(Nat.ble args.length n&&Nat.ble n 5000&&nN args)=true)
  (hwp:∀ (κ:Type) (B:Base) (h0:H) (F:κ→Option gK) (a:Act) (w:World) (vM:Nat→Value),At B h0 (Eu (Xh pm vM ++ Gs 0 args)) (BO pre) F n a w→c.oH none P (Gn P fn B h0 F vM pre post own res) a w):kX P f args pre post own res:=by
 intro κ B L h w vs E hst hl hpre hargs
 simp only [Bool.and_eq_true,Nat.ble_eq] at sW
 obtain ⟨⟨hlen,hn5⟩,hdp⟩:=sW
 have Ba:=lG hdp
 refine Dt rfl hf hb (hwp _ B.e h L _ w (fun k=>vs.getD k undef) ⟨h,E,lD.refl h,hst.toE,?_,?_,?_,rfl⟩) (fun _ _ ⟨v,h',x,he,hl,hs,hp⟩=>⟨v,h',x,he,hl,hs.ofE,hp⟩)
 ·intro s q hs
  obtain ⟨e,he,hq⟩:=hpre.get hs
  refine ⟨e,he,?_⟩
  rw [Jo]
  unfold NJ at hq
  cases h5:Nat.ble 5000 s with
  | false=>rw [h5] at hq;exact hq
  | true =>
   rw [h5] at hq
   rw [Nat.ble_eq] at h5
   rw [List.getD_eq_getElem?_getD,List.getElem?_eq_none (by omega)]
   exact hq
 ·intro s
  rcases Xi (pm:=pm) (Γ:=Gs 0 args) (vM:=fun k=>vs.getD k undef) (s:=s) with h1 | h1
  ·show (MS (Xh pm _ ++ Gs 0 args) s).at _ _ _
   rw [h1];exact Jo s
  ·show (MS (Xh pm _ ++ Gs 0 args) s).at _ _ _
   rw [h1]
   rcases He args 0 s with h1 | ⟨j,g,h1,h2,h3⟩
   ·rw [h1];exact trivial
   ·rw [h3]
    have hj:=(List.getElem?_eq_some_iff.1 h1).1
    have hv:vs[j]? = some vs[j]:=List.getElem?_eq_getElem (by omega)
    have:=hargs j g _ h1 hv
    unfold aY.at aY.dv
    rw [Ba g (List.mem_of_getElem? h1),h2,Nat.zero_add,Jo,List.getD_eq_getElem?_getD,hv]
    exact this
 ·simp;omega
section
variable {κ:Type} {B:Base} {h h0:H} {L:Nat→Option gK} {Γ:Ctx} {Λ:Own} {F:κ→Option gK} {n:Nat} {a:Act} {w:World} {vM:Nat→Value} {pre:List (Nat×dW)} {post:List Po} {res:aY}
def Gh (q:dW):Prop:=∀ v v' e,q v e→q v' e
theorem Gh.at {q:dW} {sv:Value}:Gh (iy q sv):=fun _ _ _ h=>h
def PostA (Γ:Ctx) (Λ:Own) (vM:Nat→Value):List (Nat×dW)→List Po→Prop
 | (k,q0) :: r,p :: ps=>(match p with | .to q=>Λ k=some q∧((Nat.ble 5000 k=true∧Gh q)∨(Nat.ble 5000 k=false∧Γ k=jJ (vM k))) | .keep=>Λ k=some q0∧((Nat.ble 5000 k=true∧Gh q0)∨(Nat.ble 5000 k=false∧Γ k=jJ (vM k))) | .gone=>True)∧PostA Γ Λ vM r ps
 | _,_=>True
theorem fM {x:Option dW} {b:Bool} {q:dW} {sv:Value} {X:Prop} (e:(x,b)=(some (iy q sv),true)):x=some (iy q sv)∧((b=true∧Gh (iy q sv))∨X):=⟨congrArg Prod.fst e,.inl ⟨congrArg Prod.snd e,Gh.at⟩⟩
theorem PostA.ok {E:Nat→Option gK} (rQ:Jj Λ L a) (mJ:Sat Γ h a):∀ {pre:List (Nat×dW)} {post:List Po},PostA Γ Λ vM pre post→(∀ k q,(k,q) ∈ pre→E k=L k)→Dn pre post E (NJ vM):=by
 intro pre
 induction pre with
 | nil=>intro post _ _;cases post <;> trivial
 | cons x r ih =>
  obtain ⟨k,q0⟩:=x
  intro post hp hE
  cases post with
  | nil=>trivial
  | cons p ps =>
   refine ⟨?_,ih hp.2 (fun k q hk=>hE k q (List.mem_cons_of_mem _ hk))⟩
   have key:∀ q,Λ k=some q∧((Nat.ble 5000 k=true∧Gh q)∨(Nat.ble 5000 k=false∧Γ k=jJ (vM k)))→∃ e,E k=some e∧q (NJ vM k) e:=by
    rintro q ⟨h1,h2⟩
    obtain ⟨e,hL,hq⟩:=rQ k q h1
    refine ⟨e,by rw [hE k q0 (by simp)];exact hL,?_⟩
    unfold NJ
    rcases h2 with ⟨h5,hg⟩ | ⟨h5,hf⟩
    ·exact hg _ _ _ hq
    ·rw [h5,cond_false]
     have:=mJ k
     rw [hf] at this
     have hv:a.gt k=vM k:=this
     rw [← hv];exact hq
   cases p with
   | gone=>trivial
   | to q=>exact key q hp.1
   | keep=>exact key q0 hp.1
def NK (P:Program) (Γ:Ctx) (Λ:Own) (fn:Func) (res:aY):Prop :=
 ∀ (κ:Type) (B:Base) (F:κ→Option gK) (h:H) (a:Act) (w:World),∀ L,St B h (Sum.elim L F) w→Jj Λ L a→Sat Γ h a→∃ v,(results fn a.tmps).run P w = .ok v w∧res.p h undef v
theorem Ns {fn:Func} (hr:fn.results = #[]):NK P Γ Λ fn Vg:=fun _ _ _ _ a w _ _ _ _=>⟨.tuple #[],by simp [results,hr],rfl⟩
theorem jL {fn:Func} {rv:ResultVar} {g:aY} (hr:fn.results = #[rv]) (h1:JV P Γ Λ rv g):NK P Γ Λ fn g:=fun _ B F h a w L hst rQ mJ=>by
 obtain ⟨u,hu,hp⟩:=h1 _ B F h a w L hst rQ mJ
 exact ⟨u,by rw [yG];simp [hr,hu],hp⟩
theorem H7 {fn:Func} {rv rv':ResultVar} {g g':aY} (hr:fn.results = #[rv,rv']) (h1:JV P Γ Λ rv g) (h2:JV P Γ Λ rv' g'):NK P Γ Λ fn (FW g g'):=fun _ B F h a w L hst rQ mJ=>by
 obtain ⟨u,hu,hp⟩:=h1 _ B F h a w L hst rQ mJ
 obtain ⟨u',hu',hp'⟩:=h2 _ B F h a w L hst rQ mJ
 exact ⟨.tuple #[u,u'],by rw [yG];simp [hr,hu,hu'],u,u',rfl,hp,hp'⟩
theorem lZ {fn:Func} (hA:PostA Γ Λ vM pre post) (hR:NK P Γ Λ fn res) (hAt:At B h0 Γ Λ F n a w):Gn P fn B h0 F vM pre post none res .ret a w:=by
 obtain ⟨h,L,hl,hst,rQ,mJ,_,hdf⟩:=hAt
 obtain ⟨u,hu,hp⟩:=hR _ B F h a w L hst rQ mJ
 exact fun hB=>.inl ⟨hdf.trans hB,u,hu,u,h,L,rfl,hl,hst,hA.ok rQ mJ (fun _ _ _=>rfl),trivial,hp⟩
theorem Tq {fn:Func} (hA:PostA Γ Λ vM pre post) (hR:NK P Γ Λ fn res) (hAt:At B h0 Γ Λ F n a w):Gn P fn B h0 F vM pre post none res .normal a w:=lZ hA hR hAt
end
def TP (C:List aY) (h:H) (cap:List Value):Prop:=cap.length=C.length∧∀ (j:Nat) (g:aY) (u:Value),C[j]? = some g→cap[j]? = some u→g.p h undef u
def oP (f:FuncId) (C:List aY):aY:=⟨none,fun h _ v=>∃ cap:List Value,v = .func (.func f) #[] cap.toArray∧TP C h cap,fun hl ⟨cap,e,h1,k⟩=>⟨cap,e,h1,fun j g u hg hu=>g.mono hl (k j g u hg hu)⟩⟩
theorem Ai {f:FuncId} {C:List aY} {xs:Array Operand} (hd:nN C=true) (ho:o.op = .makeFunc (.func f) #[] xs) (hargs:uT N C xs.toList):dN P o N [] (oP f C) [] :=
 dN.qW fun h a w _ hn=>by
  have hdp:=lG hd
  obtain ⟨hlen,hall⟩:=hargs.spec
  refine ⟨.func (.func f) #[] (xs.map a.eval),by simp [execOp,ho,Instr.makeFunc],xs.toList.map a.eval,by congr 1;apply Array.ext';simp,by rw [List.length_map];exact hlen.symm,fun j g u hg hu=>?_⟩
  rw [List.getElem?_map] at hu
  cases hx:xs.toList[j]? with
  | none=>rw [hx] at hu;cases hu
  | some x =>
   rw [hx] at hu;cases hu
   have:=hall j g x hg hx h a hn
   unfold aY.dv at this
   rw [hdp g (List.mem_of_getElem? hg)] at this
   exact this
def Gp (P:Program) (N:List (Nat×aY)) (o:Oper) (xs:List Operand) (f:FuncId) (C:List aY):Prop :=
 ∀ (h:H) (a:Act) (w:World),CB N h a→∃ cap:List Value,TP C h cap∧(execOp a.eval o).run P w = .ok (.enter f (xs.map a.eval ++ cap).toArray) w
theorem eH {f:FuncId} {fn:Func} {xs:Array Operand} {ts:Array TypeId} (hf:P.funcs[f]? = some fn) (hbd:qR fn=true) (ho:o.op = .call { callee:=.value (.func f),args:=xs,argTypes:=ts }):Gp P N o xs.toList f []:=by
 intro h a w _
 simp only [qR,Bool.and_eq_true,Bool.not_eq_true'] at hbd
 have hbody:fn.body≠none:=by
  intro hx;rw [hx] at hbd;cases hbd.1
 have hname:fn.name ≠ "runtime.NumGoroutine":=by simpa using hbd.2
 refine ⟨[],⟨rfl,fun j g u hg=>by simp at hg⟩,?_⟩
 have e:(xs.toList.map a.eval ++ []).toArray=xs.map a.eval:=by apply Array.ext';simp
 rw [e]
 simp [execOp,ho,resolve,Act.eval,Deferred.ofValue,invoke,callFunc,hf,hname,hbody]
theorem uM {f:FuncId} {fn:Func} {C:List aY} {z:Operand} {xs:Array Operand} {ts:Array TypeId} (hf:P.funcs[f]? = some fn) (hbd:qR fn=true) (ho:o.op = .call { callee:=.value z,args:=xs,argTypes:=ts }) (hz:bY N z (oP f C)):Gp P N o xs.toList f C:=by
 intro h a w hn
 simp only [qR,Bool.and_eq_true,Bool.not_eq_true'] at hbd
 have hbody:fn.body≠none:=by
  intro hx;rw [hx] at hbd;cases hbd.1
 have hname:fn.name ≠ "runtime.NumGoroutine":=by simpa using hbd.2
 obtain ⟨cap,hv,hc⟩:=hz h a hn
 refine ⟨cap,hc,?_⟩
 have e:(xs.toList.map a.eval ++ cap).toArray=xs.map a.eval ++ cap.toArray:=by apply Array.ext';simp
 rw [e]
 simp [execOp,ho,resolve,hv,Deferred.ofValue,invoke,callFunc,hf,hname,hbody]
def toC:List (Nat×dW)→List Nat→Nat→Option Nat
 | (k,_) :: r,g :: gs,x=>bif Nat.beq k x then some g else toC r gs x
 | _,_,_=>none
def AL:List (Nat×dW)→List Nat→Nat→Option Nat
 | (k,_) :: r,g :: gs,x=>bif Nat.beq g x then some k else AL r gs x
 | _,_,_=>none
def hasK:List (Nat×dW)→Nat→Bool
 | [],_=>false
 | (k,_) :: r,x=>Nat.beq k x||hasK r x
def Cj:List (Nat×dW)→List Nat→Bool
 | (k,_) :: r,g :: gs=>!(has gs g) && !(hasK r k) && !(Nat.beq k 9999)&&Cj r gs
 | [],[]=>true
 | _,_=>false
theorem QD:∀ {pre:List (Nat×dW)} {gs:List Nat} {k g:Nat},toC pre gs k=some g→has gs g=true∧hasK pre k=true:=by
 intro pre
 induction pre with
 | nil=>intro gs k g h;cases gs <;> cases h
 | cons x r ih =>
  obtain ⟨k0,q⟩:=x
  intro gs k g h
  cases gs with
  | nil=>cases h
  | cons g0 gs =>
   simp only [toC] at h
   cases hk:Nat.beq k0 k with
   | true=>rw [hk] at h;cases h;simp [has,hasK,hk,Nat.beq_refl]
   | false=>rw [hk] at h;have:=ih h;simp [has,hasK,this.1,this.2]
theorem LG:∀ {pre:List (Nat×dW)} {gs:List Nat} {k g:Nat},AL pre gs g=some k→has gs g=true∧hasK pre k=true:=by
 intro pre
 induction pre with
 | nil=>intro gs k g h;cases gs <;> cases h
 | cons x r ih =>
  obtain ⟨k0,q⟩:=x
  intro gs k g h
  cases gs with
  | nil=>cases h
  | cons g0 gs =>
   simp only [AL] at h
   cases hk:Nat.beq g0 g with
   | true=>rw [hk] at h;cases h;simp [has,hasK,hk,Nat.beq_refl]
   | false=>rw [hk] at h;have:=ih h;simp [has,hasK,this.1,this.2]
theorem TQ:∀ {pre:List (Nat×dW)} {gs:List Nat} {k g:Nat},Cj pre gs=true→toC pre gs k=some g→AL pre gs g=some k:=by
 intro pre
 induction pre with
 | nil=>intro gs k g _ h;cases gs <;> cases h
 | cons x r ih =>
  obtain ⟨k0,q⟩:=x
  intro gs k g hc h
  cases gs with
  | nil=>cases h
  | cons g0 gs =>
   simp only [Cj,Bool.and_eq_true,Bool.not_eq_true'] at hc
   simp only [toC] at h
   simp only [AL]
   cases hk:Nat.beq k0 k with
   | true=>rw [hk] at h;cases h;rw [gX] at hk;rw [hk,Nat.beq_refl];rfl
   | false =>
    rw [hk] at h
    have h1:=QD h
    have h2:Nat.beq g0 g=false:=by
     rw [Bool.eq_false_iff,Ne,gX];intro e;subst e;rw [h1.1] at hc;exact absurd hc.1.1.1 (by simp)
    rw [h2];exact ih hc.2 h
theorem LH:∀ {pre:List (Nat×dW)} {gs:List Nat} {k g:Nat},Cj pre gs=true→AL pre gs g=some k→toC pre gs k=some g:=by
 intro pre
 induction pre with
 | nil=>intro gs k g _ h;cases gs <;> cases h
 | cons x r ih =>
  obtain ⟨k0,q⟩:=x
  intro gs k g hc h
  cases gs with
  | nil=>cases h
  | cons g0 gs =>
   simp only [Cj,Bool.and_eq_true,Bool.not_eq_true'] at hc
   simp only [AL] at h
   simp only [toC]
   cases hk:Nat.beq g0 g with
   | true=>rw [hk] at h;cases h;rw [gX] at hk;rw [hk,Nat.beq_refl];rfl
   | false =>
    rw [hk] at h
    have h1:=LG h
    have h2:Nat.beq k0 k=false:=by
     rw [Bool.eq_false_iff,Ne,gX];intro e;subst e;rw [h1.2] at hc;exact absurd hc.1.1.2 (by simp)
    rw [h2];exact ih hc.2 h
theorem Rn:∀ {pre:List (Nat×dW)} {gs:List Nat},Cj pre gs=true→hasK pre 9999=false:=by
 intro pre
 induction pre with
 | nil=>intro gs _;rfl
 | cons x r ih =>
  obtain ⟨k0,q⟩:=x
  intro gs hc
  cases gs with
  | nil=>cases hc
  | cons g0 gs =>
   simp only [Cj,Bool.and_eq_true,Bool.not_eq_true'] at hc
   simp only [hasK,hc.1.2,ih hc.2,Bool.or_self]
def NG:List (Nat×dW)→List Nat→List (Nat×dW)
 | (_,q) :: r,g :: gs=>(g,q) :: NG r gs
 | _,_=>[]
def EW:List Nat→List Po→FV
 | g :: gs,.to q :: ps=>(g,some q) :: EW gs ps
 | g :: gs,.gone :: ps=>(g,none) :: EW gs ps
 | _ :: gs,.keep :: ps=>EW gs ps
 | _,_=>[]
def LD (own:Option dW) (d:Option Nat):FV:=match own,d with | some q,some d=>[(d,some q)] | _,_=>[]
def sG (N:List (Nat×aY)) (xs:List Operand):List (Nat×dW)→List Po→List Nat→Prop
 | (k,q) :: r,p :: ps,g :: gs=>((Nat.ble 5000 k=true∧Gh q∧(∀ q',p = .to q'→Gh q'))∨(Nat.ble 5000 k=false∧∃ x,xs[k]? = some x∧bY N x (Ph g)))∧sG N xs r ps gs
 | [],[],[]=>True
 | _,_,_=>False
theorem sG.gh {xs:List Operand} {k g:Nat} {q:dW} {p:Po} {r ps gs} (h5:Nat.ble 5000 k=true) (h1:Gh q) (h2:∀ q',p = .to q'→Gh q') (h:sG N xs r ps gs):sG N xs ((k,q) :: r) (p :: ps) (g :: gs):=⟨.inl ⟨h5,h1,h2⟩,h⟩
def Po.nt:Po→Bool
 | .to _=>false
 | _=>true
theorem sG.gk {xs:List Operand} {k g:Nat} {q:dW} {sv:Value} {p:Po} {r ps gs} (e:(Nat.ble 5000 k,p.nt)=(true,true)) (h:sG N xs r ps gs):sG N xs ((k,iy q sv) :: r) (p :: ps) (g :: gs):=.gh (congrArg Prod.fst e) Gh.at (fun q' h2=>by have:=congrArg Prod.snd e;rw [h2] at this;cases this) h
theorem sG.slot {xs:List Operand} {k g:Nat} {q:dW} {p:Po} {x:Operand} {r ps gs} (h5:Nat.ble 5000 k=false) (h1:xs[k]? = some x) (h2:bY N x (Ph g)) (h:sG N xs r ps gs):sG N xs ((k,q) :: r) (p :: ps) (g :: gs):=⟨.inr ⟨h5,x,h1,h2⟩,h⟩
theorem Du:∀ {gs:List Nat} {post:List Po} {s:Nat},has gs s=false→pJ (EW gs post) s=none:=by
 intro gs
 induction gs with
 | nil=>intro post s _;cases post <;> rfl
 | cons g gs ih =>
  intro post s h
  cases post with
  | nil=>rfl
  | cons p ps =>
   simp only [has,Bool.or_eq_false_iff] at h
   cases p <;> simp only [EW,pJ,h.1,cond_false] <;> exact ih h.2
theorem Xj:∀ {pre:List (Nat×dW)} {gs:List Nat} {s:Nat},Cj pre gs=true→AL pre gs s=none→has gs s=false:=by
 intro pre
 induction pre with
 | nil=>intro gs s hc h;cases gs with
  | nil=>rfl
  | cons _ _=>cases hc
 | cons x r ih =>
  obtain ⟨k0,q⟩:=x
  intro gs s hc h
  cases gs with
  | nil=>rfl
  | cons g gs =>
   simp only [Cj,Bool.and_eq_true,Bool.not_eq_true'] at hc
   simp only [AL] at h
   cases hb:Nat.beq g s with
   | true=>rw [hb] at h;cases h
   | false=>rw [hb] at h;simp only [has,hb,Bool.false_or];exact ih hc.2 h
section
variable {L:Nat→Option gK} {h:H} {a:Act} {xs:List Operand} {cap:List Value}
theorem TR {E:Nat→Option gK} (hn:CB N h a):∀ {pre:List (Nat×dW)} {post:List Po} {gs:List Nat},sG N xs pre post gs→Pj (NG pre gs) L a→(∀ k g,toC pre gs k=some g→E k=L g)→Cj pre gs=true→Jm pre E (NJ fun k=>(xs.map a.eval ++ cap).getD k undef):=by
 intro pre
 induction pre with
 | nil=>intro post gs _ _ _ _;trivial
 | cons x r ih =>
  obtain ⟨k,q⟩:=x
  intro post gs hk hK hE hc
  cases post with
  | nil=>cases gs <;> exact hk.elim
  | cons p ps=>cases gs with
   | nil=>exact hk.elim
   | cons g gs =>
    obtain ⟨h1,h2⟩:=hk
    obtain ⟨⟨e,hL,hq⟩,hK⟩:=hK
    have hc0:=hc
    simp only [Cj,Bool.and_eq_true,Bool.not_eq_true'] at hc
    refine ⟨⟨e,by rw [hE k g (by simp [toC,Nat.beq_refl])];exact hL,?_⟩,ih h2 hK (fun k' g' hk'=>hE k' g' ?_) hc.2⟩
    ·unfold NJ
     rcases h1 with ⟨h5,hg,_⟩ | ⟨h5,y,hy,hyx⟩
     ·exact hg _ _ _ hq
     ·rw [h5,cond_false]
      have hv:a.eval y=a.gt g:=hyx h a hn
      have:(xs.map a.eval ++ cap).getD k undef=a.eval y:=by
       have hlt:=(List.getElem?_eq_some_iff.1 hy).1
       rw [List.getD_eq_getElem?_getD,List.getElem?_append_left (by simpa using hlt),List.getElem?_map,hy];rfl
      show q ((xs.map a.eval ++ cap).getD k undef) e
      rw [this,hv];exact hq
    ·have h3:=QD hk'
     have:Nat.beq k k'=false:=by
      rw [Bool.eq_false_iff,Ne,gX];intro e;subst e;rw [h3.2] at hc;exact absurd hc.1.1.2 (by simp)
     simp only [toC,this,cond_false];exact hk'
theorem Xk {E:Nat→Option gK} {L':Nat→Option gK} {a':Act} (hn:CB N h a) {s:Nat} (ha:a'.gt s=a.gt s):∀ {pre:List (Nat×dW)} {post:List Po} {gs:List Nat},sG N xs pre post gs→Dn pre post E (NJ fun k=>(xs.map a.eval ++ cap).getD k undef) →
  Cj pre gs=true→∀ k,AL pre gs s=some k→L' s=E k →
  (∃ q,pJ (EW gs post) s=some (some q)∧∃ e,L' s=some e∧q (a'.gt s) e)∨pJ (EW gs post) s=some none∨(pJ (EW gs post) s=none∧∃ q,(s,q) ∈ NG pre gs∧∃ e,L' s=some e∧q (a'.gt s) e):=by
 intro pre
 induction pre with
 | nil=>intro post gs _ _ _ k hk;cases gs <;> cases hk
 | cons x r ih =>
  obtain ⟨k0,q⟩:=x
  intro post gs hk hp hc k hof hL
  cases post with
  | nil=>cases gs <;> exact hk.elim
  | cons p ps=>cases gs with
   | nil=>exact hk.elim
   | cons g gs =>
    obtain ⟨h1,h2⟩:=hk
    simp only [Cj,Bool.and_eq_true,Bool.not_eq_true'] at hc
    simp only [AL] at hof
    cases hb:Nat.beq g s with
    | false =>
     rw [hb] at hof
     have hlk:pJ (EW (g :: gs) (p :: ps)) s=pJ (EW gs ps) s:=by
      cases p <;> simp [EW,pJ,hb]
     rw [hlk]
     rcases ih h2 hp.2 hc.2 k hof hL with h | h | ⟨h3,q',h4,h5⟩
     ·exact .inl h
     ·exact .inr (.inl h)
     ·exact .inr (.inr ⟨h3,q',List.mem_cons_of_mem _ h4,h5⟩)
    | true =>
     rw [hb] at hof;cases hof
     rw [gX] at hb;subst hb
     have key:∀ q':dW,(Nat.ble 5000 k0=true→Gh q')→(∃ e,E k0=some e∧q' (NJ (fun k=>(xs.map a.eval ++ cap).getD k undef) k0) e)→∃ e,L' g=some e∧q' (a'.gt g) e:=by
      rintro q' hgh ⟨e,he,hq⟩
      refine ⟨e,by rw [hL];exact he,?_⟩
      unfold NJ at hq
      rcases h1 with ⟨h5,_,_⟩ | ⟨h5,y,hy,hyx⟩
      ·exact hgh h5 _ _ _ hq
      ·rw [h5,cond_false] at hq
       have hv:a.eval y=a.gt g:=hyx h a hn
       have:(xs.map a.eval ++ cap).getD k0 undef=a.eval y:=by
        have hlt:=(List.getElem?_eq_some_iff.1 hy).1
        rw [List.getD_eq_getElem?_getD,List.getElem?_append_left (by simpa using hlt),List.getElem?_map,hy];rfl
       have hq:q' ((xs.map a.eval ++ cap).getD k0 undef) e:=hq
       rw [this,hv] at hq
       rw [ha];exact hq
     cases p with
     | gone=>exact .inr (.inl (by simp [EW,pJ,Nat.beq_refl]))
     | to q' =>
      refine .inl ⟨q',by simp [EW,pJ,Nat.beq_refl],key q' (fun h5=>?_) hp.1⟩
      rcases h1 with ⟨_,_,hg⟩ | ⟨h6,_⟩
      ·exact hg q' rfl
      ·rw [h6] at h5;cases h5
     | keep =>
      refine .inr (.inr ⟨(by simp only [EW];exact Du hc.1.1.1),q,List.mem_cons_self,key q (fun h5=>?_) hp.1⟩)
      rcases h1 with ⟨_,hg,_⟩ | ⟨h6,_⟩
      ·exact hg
      ·rw [h6] at h5;cases h5
end
theorem Jp {U V:FV} {s:Nat}:pJ (U ++ V) s=(match pJ U s with | some e=>some e | none=>pJ V s):=by
 induction U with
 | nil=>rfl
 | cons x r ih =>
  obtain ⟨k,e⟩:=x
  simp only [List.cons_append,pJ]
  cases Nat.beq k s with
  | true=>rfl
  | false=>exact ih
theorem gy {f:FuncId} {args C:List aY} {pre:List (Nat×dW)} {post:List Po} {own:Option dW} {res:aY} {xs:List Operand} {gs:List Nat} {K:List (Nat×dW)} {U:FV}
    (hc:kX P f (args ++ C) pre post own res) (hE:Gp P N o xs f C) (hd:nN (res :: args)=true) (sW:(Cj pre gs && !(match o.dst with | some d=>has gs d | none=>false))=true)
    (hargs:uT N args xs) (hkey:sG N xs pre post gs) (hK:NG pre gs=K) (hU:EW gs post ++ LD own o.dst=U):dN P o N K res U:=by
  subst hK;subst hU
  intro κ B F L h a w hst hn hk hdn next Q _ hnext
  simp only [Bool.and_eq_true,Bool.not_eq_true'] at sW
  obtain ⟨hcc,hdg⟩:=sW
  obtain ⟨cap,hcap,hrun⟩:=hE h a w hn
  have hdp:=lG hd
  obtain ⟨hlen,hall⟩:=hargs.spec
  have hal:=hargs.spec.1
  unfold Oper.oH
  rw [hrun,CG]
  have hst1:St B h (Sum.elim (fun k=>(toC pre gs k).bind L) (Sum.elim (fun s=>if (AL pre gs s).isSome then none else L s) F)) w:=by
    refine hst.Bq (fun k=>match k with | .inl k=>.inl ((toC pre gs k).getD 0) | .inr (.inl s)=>.inl s | .inr (.inr x)=>.inr x) ?_ ?_
    · intro k e he
      cases k with
      | inl k =>
        simp only [Sum.elim_inl] at he
        cases ht:toC pre gs k with
        | none=>rw [ht] at he;cases he
        | some g=>rw [ht] at he;simpa [ht] using he
      | inr k=>cases k with
        | inl s =>
          simp only [Sum.elim_inr,Sum.elim_inl] at he
          split at he
          · cases he
          · exact he
        | inr x=>exact he
    · intro k k' e e' hk1 hk2 hne
      have key:∀ k e,(toC pre gs k).bind L=some e→∃ g,toC pre gs k=some g∧AL pre gs g=some k:=by
        intro k e he
        cases ht:toC pre gs k with
        | none=>rw [ht] at he;cases he
        | some g=>exact ⟨g,rfl,TQ hcc ht⟩
      have keyS:∀ s e,(if (AL pre gs s).isSome then none else L s)=some e→AL pre gs s=none:=by
        intro s e he
        split at he
        · cases he
        · rename_i hh;simpa using hh
      cases k with
      | inl k =>
        obtain ⟨g,hg,hg'⟩:=key k e hk1
        cases k' with
        | inl k' =>
          obtain ⟨g2,hg2,Pm⟩:=key k' e' hk2
          intro he
          simp only [hg,hg2,Option.getD_some] at he
          have:=Sum.inl.inj he
          rw [this,Pm] at hg';cases hg';exact hne rfl
        | inr k'=>cases k' with
          | inl s =>
            intro he
            simp only [hg,Option.getD_some] at he
            have:=Sum.inl.inj he
            have h2:=keyS s e' hk2
            rw [← this,hg'] at h2;cases h2
          | inr x=>intro he;cases he
      | inr k=>cases k with
        | inl s =>
          have h2:=keyS s e hk1
          cases k' with
          | inl k' =>
            obtain ⟨g2,hg2,Pm⟩:=key k' e' hk2
            intro he
            simp only [hg2,Option.getD_some] at he
            have:=Sum.inl.inj he
            rw [this,Pm] at h2;cases h2
          | inr k'=>cases k' with
            | inl s'=>intro he;exact hne (by rw [Sum.inl.inj he])
            | inr x=>intro he;cases he
        | inr x=>cases k' with
          | inl k'=>intro he;cases he
          | inr k'=>cases k' with
            | inl s'=>intro he;cases he
            | inr x'=>intro he;exact hne (by rw [Sum.inr.inj he])
  refine (hc _ B _ h w (xs.map a.eval ++ cap) _ hst1 (by rw [List.length_append,List.length_append,List.length_map,hal,hcap.1]) (TR hn hkey hk (fun k g hg=>by rw [hg];rfl) hcc) ?_).mono ?_
  · intro j g u hg hu
    by_cases hj:j<args.length
    · rw [List.getElem?_append_left hj] at hg
      rw [List.getElem?_append_left (by rw [List.length_map];omega),List.getElem?_map] at hu
      cases hx:xs[j]? with
      | none=>rw [hx] at hu;cases hu
      | some x =>
        rw [hx] at hu;cases hu
        have:=hall j g x hg hx h a hn
        unfold aY.dv at this
        rw [hdp g (List.mem_cons_of_mem _ (List.mem_of_getElem? hg))] at this
        exact this
    · rw [List.getElem?_append_right (by omega)] at hg
      rw [List.getElem?_append_right (by rw [List.length_map];omega),List.length_map,← hal] at hu
      exact hcap.2 _ g u hg hu
  · rintro e w' ⟨v,h',E',rfl,hl,hst',hpost,hown,hp⟩
    refine hnext v h' w' (fun s=>if o.dst=some s then (if own.isSome then E' 9999 else none) else match AL pre gs s with | some k=>E' k | none=>L s) hl ?_ ?_ ?_
    · unfold aY.dv
      rw [hdp res List.mem_cons_self]
      exact hp
    · refine hst'.Bq (fun k => match k with | .inl s => (if o.dst = some s then .inl 9999 else match AL pre gs s with | some k => .inl k | none => .inr (.inl s)) | .inr x => .inr (.inr x)) ?_ ?_
      · intro k e he
        cases k with
        | inr x=>exact he
        | inl s =>
          simp only [Sum.elim_inl] at he
          simp only []
          split at he
          · rename_i h1
            rw [if_pos h1]
            split at he
            · exact he
            · cases he
          · rename_i h1
            rw [if_neg h1]
            cases ho:AL pre gs s with
            | some k=>rw [ho] at he;exact he
            | none=>rw [ho] at he;simpa [ho] using he
      · intro k k' e e' hk1 hk2 hne
        have k9:∀ s,AL pre gs s≠some 9999:=by
          intro s he
          have:=(LG he).2
          rw [Rn hcc] at this;cases this
        cases k with
        | inr x=>cases k' with
          | inr x'=>intro he;exact hne (by rw [Sum.inr.inj (Sum.inr.inj he)])
          | inl s =>
            intro he
            simp only [] at he
            split at he
            · cases he
            · cases ho:AL pre gs s <;> rw [ho] at he <;> cases he
        | inl s=>cases k' with
          | inr x =>
            intro he
            simp only [] at he
            split at he
            · cases he
            · cases ho:AL pre gs s <;> rw [ho] at he <;> cases he
          | inl s' =>
            have hss:s≠s':=fun x=>hne (by rw [x])
            intro he
            simp only [] at he
            by_cases h1:o.dst=some s
            · by_cases h2 : o.dst = some s'
              · rw [h1] at h2;exact hss (Option.some.inj h2)
              · rw [if_pos h1,if_neg h2] at he
                cases ho:AL pre gs s' with
                | none=>rw [ho] at he;cases he
                | some k=>rw [ho] at he;exact k9 s' (by rw [ho];exact congrArg some (Sum.inl.inj he).symm)
            · by_cases h2 : o.dst = some s'
              · rw [if_neg h1,if_pos h2] at he
                cases ho:AL pre gs s with
                | none=>rw [ho] at he;cases he
                | some k=>rw [ho] at he;exact k9 s (by rw [ho];exact congrArg some (Sum.inl.inj he))
              · rw [if_neg h1,if_neg h2] at he
                cases ho:AL pre gs s with
                | none=>cases ho':AL pre gs s' with
                  | none=>rw [ho,ho'] at he;exact hss (Sum.inl.inj (Sum.inr.inj he))
                  | some k'=>rw [ho,ho'] at he;cases he
                | some k=>cases ho':AL pre gs s' with
                  | none=>rw [ho,ho'] at he;cases he
                  | some k' =>
                    rw [ho,ho'] at he
                    have:=Sum.inl.inj he
                    subst this
                    have h1:=LH hcc ho
                    have h2:=LH hcc ho'
                    rw [h1] at h2;exact hss (Option.some.inj h2)
    · intro s
      unfold full
      rw [Jp,Jp]
      by_cases hds:o.dst=some s
      · have hg : has gs s = false := by rw [hds] at hdg; exact hdg
        rw [Du hg]
        simp only []
        cases own with
        | none =>
          simp [LD,pJ,hds,Nat.beq_refl]
        | some q =>
          obtain ⟨e,he,hq⟩:=hown
          simp only [LD,hds,pJ,Nat.beq_refl,cond_true,if_pos,Option.isSome_some]
          exact ⟨e,he,by rw [fQ (hdn s hds)];exact hq⟩
      · have ha:(a.put o.dst v).gt s=a.gt s:=wZ hds
        have hrest:∀ e,pJ (LD own o.dst) s=some e→False:=by
          intro e he
          cases own with
          | none=>cases he
          | some q=>cases hd':o.dst with
            | none=>rw [hd'] at he;cases he
            | some d =>
              rw [hd'] at he
              simp only [LD,pJ] at he
              cases hb:Nat.beq d s with
              | true=>rw [gX] at hb;subst hb;exact hds hd'
              | false=>rw [hb] at he;cases he
        cases hof:AL pre gs s with
        | some k =>
          have hfin:∀ e,pJ (LD own o.dst) s=some e→False:=hrest
          have h0:pJ (full [] o.dst) s=none:=by
            unfold full
            cases hd':o.dst with
            | none=>rfl
            | some d =>
              simp only [List.nil_append,pJ]
              cases hb:Nat.beq d s with
              | true=>rw [gX] at hb;subst hb;exact absurd hd' hds
              | false=>rfl
          unfold full at h0
          rw [List.nil_append] at h0
          rcases Xk (E:=E') (L':=fun s=>if o.dst=some s then (if own.isSome then E' 9999 else none) else match AL pre gs s with | some k=>E' k | none=>L s) hn ha hkey hpost hcc k hof (by simp only [if_neg hds,hof]) with ⟨q,h1,h2⟩ | h1 | ⟨h1,h2⟩
          · rw [h1];exact h2
          · rw [h1];trivial
          · rw [h1]
            simp only []
            cases hr:pJ (LD own o.dst) s with
            | some e=>exact (hfin e hr).elim
            | none =>
              simp only []
              rw [h0]
              exact .inr h2
        | none =>
          rw [Du (Xj hcc hof)]
          simp only []
          cases hr:pJ (LD own o.dst) s with
          | some e=>exact (hrest e hr).elim
          | none =>
            simp only []
            have:pJ (full [] o.dst) s=none:=by
              unfold full
              cases hd':o.dst with
              | none=>rfl
              | some d =>
                simp only [List.nil_append,pJ]
                cases hb:Nat.beq d s with
                | true=>rw [gX] at hb;subst hb;exact absurd hd' hds
                | false=>rfl
            unfold full at this
            rw [List.nil_append] at this
            rw [this]
            exact .inl (by simp only [if_neg hds,hof])
end Go.KB
namespace Go.KB
variable {P:Program} {o:Oper} {N:List (Nat×aY)} {α β:Type}
def LJ {S κ:Type} (f:S→κ→Option S):List κ→S→Option S
 | [],s=>some s
 | x :: r,s=>(f s x).bind (LJ f r)
open Classical in
noncomputable def LK {κ R:Type} (l:List κ) (F:List κ→Option R):Option R :=
 if h:∃ r,∀ π,π.Perm l→F π=some r then some h.choose else none
theorem Ia {κ R:Type} {l:List κ} {F:List κ→Option R} {r:R} (h:LK l F=some r):∀ π,π.Perm l→F π=some r:=by
 unfold LK at h
 split at h
 ·rename_i hx;cases h;exact hx.choose_spec
 ·cases h
theorem I8 {S κ R:Type} {f:S→κ→Option S} {K:S→Option R} {s:S} {rem r1 r2:List κ} {p:κ} {r:R} (H:∀ π,π.Perm rem→(LJ f π s).bind K=some r) (he:rem=r1 ++ p :: r2) :
  ∃ s',f s p=some s'∧∀ π,π.Perm (r1 ++ r2)→(LJ f π s').bind K=some r:=by
 have key:∀ π,π.Perm (r1 ++ r2)→(((f s p).bind (LJ f π)).bind K=some r):=fun π hp =>
  H (p :: π) (by rw [he];exact (List.Perm.cons p hp).trans List.perm_middle.symm)
 cases hs:f s p with
 | none=>have:=key _ (List.Perm.refl _);rw [hs] at this;cases this
 | some s'=>exact ⟨s',rfl,fun π hp=>by have:=key π hp;rwa [hs] at this⟩
def CJ (bm bi:Nat) (f:α→Value) (rv:Rep β) (l rem:List (α×β)) (cur:Option (α×β)):gK where
 claims:=[(bm,0),(bi,0)]
 ok:=fun h m=>∃ es clock seen,m bm=some (.map es clock)∧m bi=some (.mapIter (some bm) clock seen clock)∧bm≠bi∧yH f rv h es.toList l∧wH es.toList clock∧yH f rv h (leftOf es seen).toList rem ∧
  ∀ p,cur=some p→∃ (e:MapEntry) (seen':Array Nat),seen=seen'.push e.born∧e ∈ es.toList∧e.key=f p.1∧rv.val h e.val p.2
 mono:=by
  rintro h h' m hl ⟨es,c,s,h1,h2,h3,h4,h5,h6,h7⟩
  exact ⟨es,c,s,h1,h2,h3,h4.mono hl,h5,h6.mono hl,fun p hp=>let ⟨e,s',a,b,c,d⟩:=h7 p hp;⟨e,s',a,b,c,rv.Jq hl d⟩⟩
 frame:=fun hm ⟨es,c,s,h1,h2,h3⟩=>⟨es,c,s,by rw [hm (bm,0) (by simp)];exact h1,by rw [hm (bi,0) (by simp)];exact h2,h3⟩
def J9 (sm:Value) (f:α→Value) (rv:Rep β) (l rem:List (α×β)) (cur:Option (α×β)):dW:=fun v e=>∃ bm bi,sm = .map (some bm)∧v = .pointer (some ⟨bi,0,none⟩)∧e=CJ bm bi f rv l rem cur
theorem Pn (es:Array MapEntry):leftOf es #[]=es:=by
 unfold leftOf
 exact Array.filter_eq_self.2 (fun x _=>by simp)
theorem yH.split {f:α→Value} {rv:Rep β} {h:H}:∀ {es:List MapEntry} {l:List (α×β)} {e:MapEntry},yH f rv h es l→e ∈ es→∃ e1 e2 r1 p r2,es=e1 ++ e :: e2∧l=r1 ++ p :: r2∧e.key=f p.1∧rv.val h e.val p.2∧yH f rv h (e1 ++ e2) (r1 ++ r2)
 | [],_,_,_,he=>by cases he
 | x :: es,[],_,hr,_=>hr.elim
 | x :: es,p :: l,e,⟨hx,hr⟩,he=>by
  rcases List.mem_cons.1 he with rfl | he
  ·exact ⟨[],es,[],p,l,rfl,rfl,hx.1,hx.2,hr⟩
  ·obtain ⟨e1,e2,r1,p',r2,h1,h2,h3,h4,h5⟩:=yH.split hr he
   exact ⟨x :: e1,e2,p :: r1,p',r2,by rw [h1];rfl,by rw [h2];rfl,h3,h4,hx,h5⟩
theorem Ro {es:Array MapEntry} {seen:Array Nat} {e:MapEntry} {e1 e2:List MapEntry} (hn:(es.toList.map (·.born)).Nodup) (hl:(leftOf es seen).toList=e1 ++ e :: e2):(leftOf es (seen.push e.born)).toList=e1 ++ e2:=by
 have hnl:((leftOf es seen).toList.map (·.born)).Nodup:=by
  unfold leftOf
  rw [Array.toList_filter]
  exact (List.Sublist.map _ List.filter_sublist).nodup hn
 have h1:(leftOf es (seen.push e.born)).toList=(leftOf es seen).toList.filter (fun x=>!(x.born == e.born)):=by
  unfold leftOf
  rw [Array.toList_filter,Array.toList_filter,List.filter_filter]
  congr 1
  funext x
  rw [Array.contains_push,Bool.not_or,Bool.and_comm]
 rw [hl] at hnl
 rw [h1,hl,List.filter_append,List.filter_cons]
 have hne:∀ x,x ∈ e1∨x ∈ e2→x.born≠e.born:=by
  intro x hx heq
  rw [List.map_append,List.map_cons,List.nodup_append] at hnl
  obtain ⟨_,h3,h4⟩:=hnl
  rcases hx with hx | hx
  ·exact h4 x.born (List.mem_map.2 ⟨x,hx,rfl⟩) e.born (by simp) heq
  ·exact (List.nodup_cons.1 h3).1 (List.mem_map.2 ⟨x,hx,heq⟩)
 have f1:e1.filter (fun x=>!(x.born == e.born))=e1:=List.filter_eq_self.2 (fun x hx=>by simpa using hne x (.inl hx))
 have f2:e2.filter (fun x=>!(x.born == e.born))=e2:=List.filter_eq_self.2 (fun x hx=>by simpa using hne x (.inr hx))
 rw [f1,f2]
 simp
theorem Np {T K E:TypeId} {f:α→Value} {rv:Rep β} {g d:Nat} {sm:Value} {x:Operand} {l:List (α×β)} (hT:P.underlying T=some (.map K E)) (hgd:Nat.beq g d=false) (hd:o.dst=some d) (ho:o.op = .range T x) (hx:bY N x (jJ sm)) :
    dN P o N [(g,iy (dO f rv l) sm)] aY.qH [(g,none),(d,some (J9 sm f rv l l none))]:=by
  intro κ B F L h a w hst hn hk hdn next Q hnext _
  obtain ⟨e,hL,b,hv,rfl⟩:=hk.1
  have hL:L g=some (qI b f rv l):=hL
  have hx':a.eval x = .map (some b):=(hx h a hn:a.eval x=sm).trans hv
  have hne:g≠d:=fun x=>by rw [gX.2 x] at hgd;cases hgd
  obtain ⟨es,clock,hb,hr,hB⟩:=LM hst hL
  unfold Oper.oH
  have:(execOp a.eval o).run P w = .ok (.value (.pointer (some ⟨w.heap.size,0,none⟩))) (w.alloc (.mapIter (some b) clock #[] clock)):=by
    simp only [execOp,ho,hx',Sem.run_bind,run_range_map w T K E b es clock hT hb,Result.andThen_ok,Sem.run_pure]
  rw [this]
  obtain ⟨hcl,_⟩:=hst.own (k:=Sum.inl g) hL
  have hlt:=(hcl (b,0) (by simp [qI])).2.1
  have hno:=(hcl (b,0) (by simp [qI])).2.2
  have hm:=hst.mv g d
  have hmd:mv L g d d=some (qI b f rv l):=by simp [mv,hL]
  refine hnext _ h _ (set1 (mv L g d) d (CJ b w.heap.size f rv l l none)) (lD.refl h) trivial ?_ ?_
  · refine hm.step (Sum.inl d) (fun i => i = w.heap.size) (fun i hi hlt' => absurd hlt' (by omega)) (by simp) rfl rfl rfl (fun i hi _ => zW w _ hi) (lD.refl h) (fun _ _ _ _ => rfl) ?_ sH ?_
    · rintro i o' u (rfl | hi) hu
      · rw [hst.fresh (Nat.le_refl _)] at hu;cases hu
      · rw [hst.fresh hi] at hu;cases hu
    · intro e' he
      rw [sJ he]
      refine ⟨fun c hc=>?_,es,clock,#[],?_,heap_alloc_new w _,by omega,hr,hB,by rw [Pn];exact hr,fun p hp=>by cases hp⟩
      · simp only [CJ,List.mem_cons,List.not_mem_nil,or_false] at hc
        rcases hc with rfl | rfl
        · exact ⟨.inr ⟨_,hmd,(b,0),by simp [qI],rfl⟩,by simp;omega,fun o' _=>hno o' (Nat.zero_le _)⟩
        · exact ⟨.inl (Nat.le_refl _),by simp,fun o' _=>hst.fresh (Nat.le_refl _) o'⟩
      · exact (zW w _ hlt).trans hb
  · rw [hd]
    intro k
    by_cases hkd:k=d
    · subst hkd
      have h1:pJ (full [(g,none),(k,some (J9 sm f rv l l none))] (some k)) k=some (some (J9 sm f rv l l none)):=by
        simp [full,pJ,hgd,Nat.beq_refl]
      rw [h1]
      exact ⟨_,qG,b,w.heap.size,hv,by rw [fQ (hdn k hd)],rfl⟩
    · by_cases hkg : k = g
      · subst hkg
        have h1:pJ (full [(k,none),(d,some (J9 sm f rv l l none))] (some d)) k=some none:=by simp [full,pJ,Nat.beq_refl]
        rw [h1];trivial
      · have n1 : Nat.beq g k = false := by rw [Bool.eq_false_iff, Ne, gX]; exact fun x => hkg x.symm
        have n2:Nat.beq d k=false:=by rw [Bool.eq_false_iff,Ne,gX];exact fun x=>hkd x.symm
        have h1:pJ (full [(g,none),(d,some (J9 sm f rv l l none))] (some d)) k=none:=by simp [full,pJ,n1,n2]
        rw [h1]
        simp [set1,mv,hkd,hkg]

def EY (sm si:Value) (f:α→Value) (rv:Rep β) (l rem:List (α×β)):dW:=fun v e=>(v = .tuple #[.bool false]∧rem=[]∧J9 sm f rv l [] none si e) ∨
 ∃ k x r1 p r2,v = .tuple #[.bool true,k,x]∧rem=r1 ++ p :: r2∧J9 sm f rv l (r1 ++ r2) (some p) si e
def Ql (sm si:Value) (f:α→Value) (rv:Rep β) (l rem:List (α×β)):dW:=fun v e=>(v = .bool false∧rem=[]∧J9 sm f rv l [] none si e) ∨
 ∃ r1 p r2,v = .bool true∧rem=r1 ++ p :: r2∧J9 sm f rv l (r1 ++ r2) (some p) si e
theorem V3 {κ:Type} {B:Base} {h:H} {L:Nat→Option gK} {F:κ→Option gK} {w:World} (hst:St B h (Sum.elim L F) w) {s bm bi:Nat} {f:α→Value} {rv:Rep β} {l rem:List (α×β)} {cur:Option (α×β)} (hk:L s=some (CJ bm bi f rv l rem cur)) :
  ∃ es clock seen,w.heap[bm]? = some (.map es clock)∧w.heap[bi]? = some (.mapIter (some bm) clock seen clock)∧bm≠bi∧yH f rv h es.toList l∧wH es.toList clock∧yH f rv h (leftOf es seen).toList rem ∧
  ∀ p,cur=some p→∃ (e:MapEntry) (seen':Array Nat),seen=seen'.push e.born∧e ∈ es.toList∧e.key=f p.1∧rv.val h e.val p.2:=(hst.own (k:=Sum.inl s) hk).2
theorem NM {w:World} {b:Nat} {o o':Obj} (hb:w.heap[b]? = some o):(ChangeMaps.setBlock w b o').heap[b]? = some o':=by
 have:=(Array.getElem?_eq_some_iff.1 hb).1
 simp [ChangeMaps.setBlock,this]
theorem Ig {w:World} {b i:Nat} {o':Obj} (hi:i≠b):(ChangeMaps.setBlock w b o').heap[i]? = w.heap[i]?:=by
 simp [ChangeMaps.setBlock,Array.getElem?_setIfInBounds_ne (Ne.symm hi)]
theorem Qm {f:α→Value} {rv:Rep β} {g d:Nat} {sm si:Value} {x:Operand} {l rem:List (α×β)} {cur:Option (α×β)} (hgd:Nat.beq g d=false) (hd:o.dst=some d) (ho:o.op = .next x false) (hx:bY N x (jJ si)) :
    dN P o N [(g,iy (J9 sm f rv l rem cur) si)] aY.qH [(g,none),(d,some (EY sm si f rv l rem))]:=by
  intro κ B F L h a w hst hn hk hdn next Q hnext _
  obtain ⟨e,hL,bm,bi,hsm,hsi,rfl⟩:=hk.1
  have hL:L g=some (CJ bm bi f rv l rem cur):=hL
  have hx':a.eval x = .pointer (some ⟨bi,0,none⟩):=(hx h a hn:a.eval x=si).trans hsi
  have hne:g≠d:=fun x=>by rw [gX.2 x] at hgd;cases hgd
  obtain ⟨es,clock,seen,hb,hi,hbi,hr,hB,hleft,_⟩:=V3 hst hL
  obtain ⟨hcl,_⟩:=hst.own (k:=Sum.inl g) hL
  have hm:=hst.mv g d
  have hmd:mv L g d d=some (CJ bm bi f rv l rem cur):=by simp [mv,hL]
  have Vw:∀ (E:gK) (v:Value),EY sm si f rv l rem v E→Eg L (set1 (mv L g d) d E) (full [(g,none),(d,some (EY sm si f rv l rem))] o.dst) (a.put o.dst v):=by
    intro E v hq
    rw [hd]
    intro k
    by_cases hkd:k=d
    · subst hkd
      have h1:pJ (full [(g,none),(k,some (EY sm si f rv l rem))] (some k)) k=some (some (EY sm si f rv l rem)):=by simp [full,pJ,hgd,Nat.beq_refl]
      rw [h1]
      exact ⟨_,qG,by rw [fQ (hdn k hd)];exact hq⟩
    · by_cases hkg : k = g
      · subst hkg
        have h1:pJ (full [(k,none),(d,some (EY sm si f rv l rem))] (some d)) k=some none:=by simp [full,pJ,Nat.beq_refl]
        rw [h1];trivial
      · have n1 : Nat.beq g k = false := by rw [Bool.eq_false_iff, Ne, gX]; exact fun x => hkg x.symm
        have n2:Nat.beq d k=false:=by rw [Bool.eq_false_iff,Ne,gX];exact fun x=>hkd x.symm
        have h1:pJ (full [(g,none),(d,some (EY sm si f rv l rem))] (some d)) k=none:=by simp [full,pJ,n1,n2]
        rw [h1]
        simp [set1,mv,hkd,hkg]
  unfold Oper.oH
  rcases run_next_at (P:=P) w o.type bi bm clock clock seen es clock hi hb hB.2 (Nat.le_refl _) with ⟨h0,hrun⟩ | ⟨e,he,w1,hw1,hrun⟩
  · have:(execOp a.eval o).run P w = .ok (.value (.tuple #[.bool false])) w:=by
      simp only [execOp,ho,hx',Sem.run_bind,hrun,Result.andThen_ok,Sem.run_pure]
    rw [this]
    have hnil:(leftOf es seen).toList=[]:=by
      have:(leftOf es seen).toList.length=0:=by simpa using h0
      exact List.eq_nil_of_length_eq_zero this
    have Xl:rem=[]:=by
      rw [hnil] at hleft
      cases rem with
      | nil=>rfl
      | cons _ _=>exact hleft.elim
    subst Xl
    refine hnext _ h _ (set1 (mv L g d) d (CJ bm bi f rv l [] none)) (lD.refl h) trivial ?_ (Vw _ _ (.inl ⟨rfl,rfl,bm,bi,hsm,hsi,rfl⟩))
    exact hm.swap hmd (fun c hc=>⟨c,hc,rfl,Nat.le_refl _⟩) ⟨es,clock,seen,hb,hi,hbi,hr,hB,hleft,fun p hp=>by cases hp⟩
  · have:(execOp a.eval o).run P w = .ok (.value (.tuple #[.bool true,e.key,e.val])) (ChangeMaps.setBlock w1 bi (.mapIter (some bm) clock (seen.push e.born) clock)):=by
      simp only [execOp,ho,hx',Sem.run_bind,hrun,Result.andThen_ok,Sem.run_pure]
    rw [this]
    have hall:w1.heap=w.heap∧w1.os=w.os∧w1.tape=w.tape∧w1.output=w.output:=by rcases hw1 with rfl | rfl <;> exact ⟨rfl,rfl,rfl,rfl⟩
    have hdrw:w.drawn≤w1.drawn:=by rcases hw1 with rfl | rfl;exact Nat.le_refl _;exact Nat.le_succ _
    obtain ⟨e1,e2,r1,p,r2,hl,Xl,hkey,hval,hrest⟩:=hleft.split he
    have hmem:e ∈ es.toList:=by
      unfold leftOf at he
      rw [Array.toList_filter] at he
      exact (List.mem_filter.1 he).1
    refine hnext _ h _ (set1 (mv L g d) d (CJ bm bi f rv l (r1 ++ r2) (some p))) (lD.refl h) trivial ?_ (Vw _ _ (.inr ⟨_,_,r1,p,r2,rfl,Xl,bm,bi,hsm,hsi,rfl⟩))
    have hno:=fun o'=>(hcl (bi,0) (by simp [CJ])).2.2 o' (Nat.zero_le _)
    refine hm.step (hdr:=hdrw) (Sum.inl d) (fun i=>i=bi) (fun i hi _=>⟨_,hmd,(bi,0),by simp [CJ],hi.symm⟩) (by simp [ChangeMaps.setBlock,hall.1]) hall.2.1 hall.2.2.1 hall.2.2.2 (fun i _ hi=>(Ig hi).trans (by rw [hall.1])) (lD.refl h) (fun _ _ _ _=>rfl) ?_ sH ?_
    · rintro i o' u (rfl | hi') hu
      · rw [hno o'] at hu;cases hu
      · rw [hst.fresh hi'] at hu;cases hu
    · intro e' he'
      rw [sJ he']
      refine ⟨fun c hc=>?_,es,clock,seen.push e.born,(Ig hbi).trans (by rw [hall.1];exact hb),NM (o:=.mapIter (some bm) clock seen clock) (by rw [hall.1];exact hi),hbi,hr,hB,by rw [Ro hB.1 hl];exact hrest,fun p' hp'=>?_⟩
      · obtain ⟨_,h2,h3⟩:=hcl c hc
        exact ⟨.inr ⟨_,hmd,c,hc,rfl⟩,by simpa [ChangeMaps.setBlock,hall.1] using h2,h3⟩
      · cases hp'
        exact ⟨e,seen,rfl,hmem,hkey,hval⟩
theorem I7 {f:α→Value} {rv:Rep β} {g d:Nat} {sm si:Value} {l rem:List (α×β)} (hgd:Nat.beq g d=false) (hd:o.dst=some d) (ho:o.op = .extract (.tmp g) 0) :
  dN P o N [(g,EY sm si f rv l rem)] aY.qH [(g,none),(d,some (Ql sm si f rv l rem))]:=by
 intro κ B F L h a w hst hn hk hdn next Q hnext _
 obtain ⟨e,hL,hq⟩:=hk.1
 have hL:L g=some e:=hL
 have hne:g≠d:=fun x=>by rw [gX.2 x] at hgd;cases hgd
 unfold Oper.oH
 rcases hq with ⟨hv,h1,h2⟩ | ⟨k,x,r1,p,r2,hv,h1,h2⟩
 ·have hv':a.eval (.tmp g) = .tuple #[.bool false]:=hv
  have:(execOp a.eval o).run P w = .ok (.value (.bool false)) w:=by simp [execOp,ho,hv',Instr.extract]
  rw [this]
  refine hnext _ h w _ (lD.refl h) trivial (hst.mv g d) ?_
  rw [hd]
  exact FO hne hL (by rw [fQ (hdn d hd)];exact .inl ⟨rfl,h1,h2⟩)
 ·have hv':a.eval (.tmp g) = .tuple #[.bool true,k,x]:=hv
  have:(execOp a.eval o).run P w = .ok (.value (.bool true)) w:=by simp [execOp,ho,hv',Instr.extract]
  rw [this]
  refine hnext _ h w _ (lD.refl h) trivial (hst.mv g d) ?_
  rw [hd]
  exact FO hne hL (by rw [fQ (hdn d hd)];exact .inr ⟨r1,p,r2,rfl,h1,h2⟩)
theorem Nr [DecidableEq α] {K:TypeId} {rk:Rep α} {f:α→Value} {rv:Rep β} {g:Nat} {sm si:Value} {x:Operand} {l rem:List (α×β)} {p:α×β} (hf:zf P K rk f) (ho:o.op = .entry x) (hx:bY N x (jJ si)) :
  dN P o N [(g,iy (J9 sm f rv l rem (some p)) si)] (FW (fV rk p.1) (fV rv p.2)) []:=by
 intro κ B F L h a w hst hn hk hdn next Q hnext _
 obtain ⟨e,hL,bm,bi,hsm,hsi,rfl⟩:=hk.1
 have hL:L g=some (CJ bm bi f rv l rem (some p)):=hL
 have hx':a.eval x = .pointer (some ⟨bi,0,none⟩):=(hx h a hn:a.eval x=si).trans hsi
 obtain ⟨es,clock,seen,hb,hi,hbi,hr,hB,hleft,hc⟩:=V3 hst hL
 obtain ⟨e,seen',hs,he,hkey,hval⟩:=hc p rfl
 rw [hs] at hi
 have hrun:=run_entry_at (P:=P) w bi bm clock seen' es clock e hi hb he hB.1
 unfold Oper.oH
 have:(execOp a.eval o).run P w = .ok (.value (.tuple #[e.key,e.val])) w:=by
  simp only [execOp,ho,hx',Sem.run_bind,hrun,Result.andThen_ok,Sem.run_pure]
 rw [this]
 exact hnext _ h w L (lD.refl h) ⟨_,_,rfl,by rw [hkey];exact hf.val h p.1,hval⟩ hst lF
section
variable {ρ:Option Nat} {κ:Type} {B:Base} {h0:H} {Γ:Ctx} {Λ:Own} {F:κ→Option gK} {n:Nat} {a:Act} {w:World} {Q:Exit→Act→World→Prop} {sm si:Value} {f:α→Value} {rv:Rep β} {l rem:List (α×β)}
theorem At.Nq {q:dW} (s g:Nat) (hsg:Nat.beq s g=false) (hAt:At B h0 Γ Λ F n a w) (hs:Λ s=some q) :
  ∃ sv,At B h0 (fun k=>bif Nat.beq s k then jJ sv else Γ k) (fun k=>bif Nat.beq g k then some (iy q sv) else bif Nat.beq s k then none else Λ k) F n a w:=by
 obtain ⟨h,L,hle,hst,rQ,mJ,hsz,hdf⟩:=hAt
 obtain ⟨e,hL,hq⟩:=rQ s q hs
 have hne:s≠g:=fun x=>by rw [gX.2 x] at hsg;cases hsg
 refine ⟨a.gt s,h,mv L s g,hle,hst.mv s g,?_,?_,hsz,hdf⟩
 ·intro k q' hq'
  cases hk:Nat.beq g k with
  | true=>simp only [hk,cond_true] at hq';cases hq';rw [gX] at hk;subst hk;exact ⟨e,by simp [mv,hL],hq⟩
  | false =>
   simp only [hk,cond_false] at hq'
   cases hk2:Nat.beq s k with
   | true=>simp only [hk2,cond_true] at hq';cases hq'
   | false =>
    simp only [hk2,cond_false] at hq'
    have n1:k≠g:=fun x=>by rw [gX.2 x.symm] at hk;cases hk
    have n2:k≠s:=fun x=>by rw [gX.2 x.symm] at hk2;cases hk2
    obtain ⟨e',h1,h2⟩:=rQ k q' hq'
    exact ⟨e',by simp [mv,n1,n2,h1],h2⟩
 ·intro k
  cases hk:Nat.beq s k with
  | true=>simp only [hk,cond_true];rw [gX] at hk;subst hk;exact rfl
  | false=>simp only [hk,cond_false];exact mJ k
theorem At.TJ {q:dW} (g:Nat) {q':dW} (hAt:At B h0 Γ Λ F n a w) (hs:Λ g=some q)
  (hq:∀ v e,q v e→∃ e',q' v e'∧(∀ c ∈ e'.claims,∃ c0 ∈ e.claims,c0.1=c.1∧c0.2≤c.2)∧∀ h m,e.ok h m→e'.ok h m):At B h0 Γ (fun k=>bif Nat.beq g k then some q' else Λ k) F n a w:=by
 obtain ⟨h,L,hle,hst,rQ,mJ,hsz,hdf⟩:=hAt
 obtain ⟨e,hL,hq1⟩:=rQ g q hs
 obtain ⟨e',hq2,hcl,hok⟩:=hq _ _ hq1
 refine ⟨h,_,hle,hst.swap hL hcl (hok _ _ (hst.own (k:=Sum.inl g) hL).2),?_,mJ,hsz,hdf⟩
 intro k q1 h1
 cases hk:Nat.beq g k with
 | true=>simp only [hk,cond_true] at h1;cases h1;rw [gX] at hk;subst hk;exact ⟨e',qG,hq2⟩
 | false =>
  simp only [hk,cond_false] at h1
  obtain ⟨e1,h2,h3⟩:=rQ k q1 h1
  have n1:k≠g:=fun x=>by rw [gX.2 x.symm] at hk;cases hk
  exact ⟨e1,by simp [set1,n1,h2],h3⟩
theorem At.Qn {cur:Option (α×β)} (g:Nat) (hAt:At B h0 Γ Λ F n a w) (hs:Λ g=some (iy (J9 sm f rv l rem cur) si)):At B h0 Γ (fun k=>bif Nat.beq g k then some (iy (J9 sm f rv l rem none) si) else Λ k) F n a w :=
 hAt.TJ g hs fun v e ⟨bm,bi,h1,h2,he⟩=>⟨CJ bm bi f rv l rem none,⟨bm,bi,h1,h2,rfl⟩,by subst he;exact fun c hc=>⟨c,hc,rfl,Nat.le_refl _⟩,by
  subst he
  rintro h m ⟨es,c,s,k1,k2,k3,k4,k5,k6,_⟩
  exact ⟨es,c,s,k1,k2,k3,k4,k5,k6,fun p hp=>by cases hp⟩⟩
theorem At.Qo {cur:Option (α×β)} (g:Nat) (hAt:At B h0 Γ Λ F n a w) (hs:Λ g=some (iy (J9 sm f rv l rem cur) si)):At B h0 Γ (fun k=>bif Nat.beq g k then some (iy (dO f rv l) sm) else Λ k) F n a w :=
 hAt.TJ g hs fun v e ⟨bm,bi,h1,h2,he⟩=>⟨qI bm f rv l,⟨bm,h1,rfl⟩,by subst he;intro c hc;exact ⟨c,by simp only [qI,List.mem_singleton] at hc;subst hc;simp [CJ],rfl,Nat.le_refl _⟩,by
  subst he
  rintro h m ⟨es,c,s,k1,k2,k3,k4,k5,k6,_⟩
  exact ⟨es,c,k1,k4,k5⟩⟩
theorem Kq {t:Nat} {x y:Code} (g:Nat) (hgt:Nat.beq t g=false) (hAt:At B h0 Γ Λ F n a w) (hs:Λ t=some (Ql sm si f rv l rem))
  (ht:∀ r1 p r2,rem=r1 ++ p :: r2→At B h0 Γ (fun k=>bif Nat.beq g k then some (iy (J9 sm f rv l (r1 ++ r2) (some p)) si) else bif Nat.beq t k then none else Λ k) F n a w→x.oH ρ P Q a w)
  (hf:rem=[]→At B h0 Γ (fun k=>bif Nat.beq g k then some (iy (J9 sm f rv l [] none) si) else bif Nat.beq t k then none else Λ k) F n a w→y.oH ρ P Q a w):(Code.cond (.tmp t) x y).oH ρ P Q a w:=by
 obtain ⟨h,L,hle,hst,rQ,mJ,hsz,hdf⟩:=hAt
 obtain ⟨e,hL,hq⟩:=rQ t _ hs
 have hne:t≠g:=fun x=>by rw [gX.2 x] at hgt;cases hgt
 have key:∀ q:dW,q si e→At B h0 Γ (fun k=>bif Nat.beq g k then some (iy q si) else bif Nat.beq t k then none else Λ k) F n a w:=by
  intro q hq
  refine ⟨h,mv L t g,hle,hst.mv t g,?_,mJ,hsz,hdf⟩
  intro k q' hq'
  cases hk:Nat.beq g k with
  | true=>simp only [hk,cond_true] at hq';cases hq';rw [gX] at hk;subst hk;exact ⟨e,by simp [mv,hL],hq⟩
  | false =>
   simp only [hk,cond_false] at hq'
   cases hk2:Nat.beq t k with
   | true=>simp only [hk2,cond_true] at hq';cases hq'
   | false =>
    simp only [hk2,cond_false] at hq'
    have n1:k≠g:=fun x=>by rw [gX.2 x.symm] at hk;cases hk
    have n2:k≠t:=fun x=>by rw [gX.2 x.symm] at hk2;cases hk2
    obtain ⟨e',h1,h2⟩:=rQ k q' hq'
    exact ⟨e',by simp [mv,n1,n2,h1],h2⟩
 rcases hq with ⟨hv,h1,h2⟩ | ⟨r1,p,r2,hv,h1,h2⟩
 ·exact wp_cond_split (t:=false) (show Act.eval a (.tmp t)=_ from hv) (fun e=>by cases e) (fun _=>hf h1 (key _ h2))
 ·exact wp_cond_split (t:=true) (show Act.eval a (.tmp t)=_ from hv) (fun _=>ht r1 p r2 h1 (key _ h2)) (fun e=>by cases e)
theorem H9 {S R κ':Type} {body:Code} {f:S→κ'→Option S} {K:S→Option R} {r:R} {l:List κ'} (Inv:S→List κ'→Act→World→Prop) (Post:Exit→Act→World→Prop)
  (hb:∀ s rem a w,(∀ π,π.Perm rem→(LJ f π s).bind K=some r)→Inv s rem a w→body.oH ρ P (fun e a' w'=>(e = .normal∧∃ s' r1 p r2,rem=r1 ++ p :: r2∧f s p=some s'∧Inv s' (r1 ++ r2) a' w')∨(e ≠ .normal∧Post e a' w')) a w) :
  ∀ (s0:S) (a:Act) (w:World),(∀ π,π.Perm l→(LJ f π s0).bind K=some r)→Inv s0 l a w→(Code.loop body).oH ρ P Post a w:=by
 intro s0 a w hH hI b k cs hro hbf hrm
 have key:∀ N (l:List κ') s a w,l.length=N→(∀ π,π.Perm l→(LJ f π s).bind K=some r)→Inv s l a w →
   ∃ e a' w',Post e a' w'∧ArrivesIn (Machine.fenced P (JO ρ)) P (lone (b.atR a (.code body :: .inLoop body :: k)) cs w) b k cs e a' w':=by
  intro N
  induction N using Nat.strongRecOn with
  | _ N ih =>
   intro l s a w hl hH hI
   obtain ⟨e,a₁,w₁,hq,harr⟩:=hb s l a w hH hI b (.inLoop body :: k) cs hro hbf hrm
   rcases hq with ⟨rfl,s',r1,p,r2,he,hs,hI'⟩ | ⟨hne,hp⟩
   ·obtain ⟨s2,hs2,hH'⟩:=I8 hH he
    rw [hs] at hs2;cases hs2
    obtain ⟨e₂,a₂,w₂,hq₂,harr₂⟩:=ih (r1 ++ r2).length (by rw [← hl,he];simp) (r1 ++ r2) s' a₁ w₁ rfl hH' hI'
    exact ⟨e₂,a₂,w₂,hq₂,.of_steps (StepsIn.trans harr (.one (fenced_calm hbf hrm rfl) stepR_inLoop)) harr₂⟩
   ·exact ⟨e,a₁,w₁,hp,.pass (x:=.inLoop body) rfl (fun _ _=>.inl hne) harr⟩
 obtain ⟨e,a',w',hq,harr⟩:=key _ l s0 a w rfl hH hI
 exact ⟨e,a',w',hq,.of_steps (.one (fenced_calm hbf hrm rfl) stepR_loop) harr⟩
end
end Go.KB
namespace Go.KB
variable {P:Program} {o:Oper} {N:List (Nat×aY)} {α β:Type}
theorem Xm {f:FuncId} {args:List aY} {pre:List (Nat×dW)} {post:List Po} {res:aY} {gs:List Nat} {κ:Type} {B:Base} {h:H} {L:Nat→Option gK} {F:κ→Option gK} {w:World} {vs:List Value}
  (hc:kX P f args pre post none res) (hcc:Cj pre gs=true) (hst:St B h (Sum.elim L F) w) (hlen:args.length=vs.length) (hpre:Jm pre (fun k=>(toC pre gs k).bind L) (NJ fun k=>vs.getD k undef))
  (hargs:∀ (j:Nat) (g:aY) (u:Value),args[j]? = some g→vs[j]? = some u→g.p h undef u) :
  Calls P f vs.toArray w (fun e w'=>∃ v h' E',e = .returned v∧lD h h'∧St B h' (Sum.elim (fun s=>match AL pre gs s with | some k=>E' k | none=>L s) F) w'∧Dn pre post E' (NJ fun k=>vs.getD k undef)∧res.p h' undef v):=by
 have hst1:St B h (Sum.elim (fun k=>(toC pre gs k).bind L) (Sum.elim (fun s=>if (AL pre gs s).isSome then none else L s) F)) w:=by
  refine hst.Bq (fun k=>match k with | .inl k=>.inl ((toC pre gs k).getD 0) | .inr (.inl s)=>.inl s | .inr (.inr x)=>.inr x) ?_ ?_
  ·intro k e he
   cases k with
   | inl k =>
    simp only [Sum.elim_inl] at he
    cases ht:toC pre gs k with
    | none=>rw [ht] at he;cases he
    | some g=>rw [ht] at he;simpa [ht] using he
   | inr k=>cases k with
    | inl s =>
     simp only [Sum.elim_inr,Sum.elim_inl] at he
     split at he
     ·cases he
     ·exact he
    | inr x=>exact he
  ·intro k k' e e' hk1 hk2 hne
   have key:∀ k e,(toC pre gs k).bind L=some e→∃ g,toC pre gs k=some g∧AL pre gs g=some k:=by
    intro k e he
    cases ht:toC pre gs k with
    | none=>rw [ht] at he;cases he
    | some g=>exact ⟨g,rfl,TQ hcc ht⟩
   have keyS:∀ s e,(if (AL pre gs s).isSome then none else L s)=some e→AL pre gs s=none:=by
    intro s e he
    split at he
    ·cases he
    ·rename_i hh;simpa using hh
   cases k with
   | inl k =>
    obtain ⟨g,hg,hg'⟩:=key k e hk1
    cases k' with
    | inl k' =>
     obtain ⟨g2,hg2,Pm⟩:=key k' e' hk2
     intro he
     simp only [hg,hg2,Option.getD_some] at he
     have:=Sum.inl.inj he
     rw [this,Pm] at hg';cases hg';exact hne rfl
    | inr k'=>cases k' with
     | inl s =>
      intro he
      simp only [hg,Option.getD_some] at he
      have:=Sum.inl.inj he
      have h2:=keyS s e' hk2
      rw [← this,hg'] at h2;cases h2
     | inr x=>intro he;cases he
   | inr k=>cases k with
    | inl s =>
     have h2:=keyS s e hk1
     cases k' with
     | inl k' =>
      obtain ⟨g2,hg2,Pm⟩:=key k' e' hk2
      intro he
      simp only [hg2,Option.getD_some] at he
      have:=Sum.inl.inj he
      rw [this,Pm] at h2;cases h2
     | inr k'=>cases k' with
      | inl s'=>intro he;exact hne (by rw [Sum.inl.inj he])
      | inr x=>intro he;cases he
    | inr x=>cases k' with
     | inl k'=>intro he;cases he
     | inr k'=>cases k' with
      | inl s'=>intro he;cases he
      | inr x'=>intro he;exact hne (by rw [Sum.inr.inj he])
 refine (hc _ B _ h w vs _ hst1 hlen hpre hargs).mono ?_
 rintro e w' ⟨v,h',E',rfl,hl,hst',hpost,_,hp⟩
 refine ⟨v,h',E',rfl,hl,?_,hpost,hp⟩
 refine hst'.Bq (fun k=>match k with | .inl s=>(match AL pre gs s with | some k=>.inl k | none=>.inr (.inl s)) | .inr x=>.inr (.inr x)) ?_ ?_
 ·intro k e he
  cases k with
  | inr x=>exact he
  | inl s =>
   simp only [Sum.elim_inl] at he
   simp only []
   cases ho:AL pre gs s with
   | some k=>rw [ho] at he;exact he
   | none=>rw [ho] at he;simpa [ho] using he
 ·intro k k' e e' hk1 hk2 hne
  cases k with
  | inr x=>cases k' with
   | inr x'=>intro he;exact hne (by rw [Sum.inr.inj (Sum.inr.inj he)])
   | inl s=>intro he;simp only [] at he;cases ho:AL pre gs s <;> rw [ho] at he <;> cases he
  | inl s=>cases k' with
   | inr x=>intro he;simp only [] at he;cases ho:AL pre gs s <;> rw [ho] at he <;> cases he
   | inl s' =>
    have hss:s≠s':=fun x=>hne (by rw [x])
    intro he
    simp only [] at he
    cases ho:AL pre gs s with
    | none=>cases ho':AL pre gs s' with
     | none=>rw [ho,ho'] at he;exact hss (Sum.inl.inj (Sum.inr.inj he))
     | some k'=>rw [ho,ho'] at he;cases he
    | some k=>cases ho':AL pre gs s' with
     | none=>rw [ho,ho'] at he;cases he
     | some k' =>
      rw [ho,ho'] at he
      have:=Sum.inl.inj he
      subst this
      have h1:=LH hcc ho
      have h2:=LH hcc ho'
      rw [h1] at h2;exact hss (Option.some.inj h2)
abbrev KE:=List (Nat×gK)
def Ci:KE→Nat→Option gK
 | [],_=>none
 | (k,e) :: r,s=>bif Nat.beq k s then some e else Ci r s
def sF (l:KE):gK where
 claims:=l.flatMap (fun p=>p.2.claims)
 ok:=fun h m=>∀ p ∈ l,p.2.ok h m
 mono:=fun hl x p hp=>p.2.mono hl (x p hp)
 frame:=fun hm x p hp=>p.2.frame (fun c hc=>hm c (List.mem_flatMap.2 ⟨p,hp,hc⟩)) (x p hp)
def DV (l:KE):Prop:=l.Pairwise fun p p'=>FM p.2.claims p'.2.claims
def Dq:KE→Bool
 | []=>true
 | (k,_) :: r=>!((Ci r k).isSome)&&Dq r
theorem IJ:∀ {l:KE} {k:Nat} {e:gK},Ci l k=some e→(k,e) ∈ l:=by
 intro l
 induction l with
 | nil=>intro k e h;cases h
 | cons x r ih =>
  obtain ⟨k0,e0⟩:=x
  intro k e h
  simp only [Ci] at h
  cases hk:Nat.beq k0 k with
  | true=>rw [hk] at h;cases h;rw [gX] at hk;subst hk;simp
  | false=>rw [hk] at h;exact List.mem_cons_of_mem _ (ih h)
theorem Gt:∀ {l:KE} {k:Nat} {e:gK},(k,e) ∈ l→(Ci l k).isSome=true:=by
 intro l
 induction l with
 | nil=>intro k e h;cases h
 | cons x r ih =>
  obtain ⟨k0,e0⟩:=x
  intro k e h
  simp only [Ci]
  cases hk:Nat.beq k0 k with
  | true=>rfl
  | false =>
   rcases List.mem_cons.1 h with h | h
   ·cases h;rw [Nat.beq_refl] at hk;cases hk
   ·exact ih h
theorem DV.get {l:KE} (hd:DV l):∀ {k k':Nat} {e e':gK},Ci l k=some e→Ci l k'=some e'→k≠k'→FM e.claims e'.claims:=by
 induction l with
 | nil=>intro k k' e e' h;cases h
 | cons x r ih =>
  obtain ⟨k0,e0⟩:=x
  intro k k' e e' h h' hne
  obtain ⟨h1,h2⟩:=List.pairwise_cons.1 hd
  simp only [Ci] at h h'
  cases hk:Nat.beq k0 k with
  | true =>
   rw [hk] at h;cases h
   rw [gX] at hk;subst hk
   have hk':Nat.beq k0 k'=false:=by rw [Bool.eq_false_iff,Ne,gX];exact hne
   rw [hk'] at h'
   exact h1 _ (IJ h')
  | false =>
   rw [hk] at h
   cases hk':Nat.beq k0 k' with
   | true =>
    rw [hk'] at h';cases h'
    have:=h1 _ (IJ h)
    exact fun c hc c' hc' he=>this c' hc' c hc he.symm
   | false=>rw [hk'] at h';exact ih h2 h h' hne
section
variable {κ:Type} {B:Base} {h:H} {L:Nat→Option gK} {F:κ→Option gK} {w:World}
theorem LC (hst:St B h (Sum.elim L F) w):∀ {l:KE},(∀ p ∈ l,L p.1=some p.2)→Dq l=true→DV l:=by
 intro l
 induction l with
 | nil=>intro _ _;exact List.Pairwise.nil
 | cons x r ih =>
  obtain ⟨k,e⟩:=x
  intro hL hn
  simp only [Dq,Bool.and_eq_true,Bool.not_eq_true'] at hn
  refine List.pairwise_cons.2 ⟨fun p hp=>?_,ih (fun p hp=>hL p (List.mem_cons_of_mem _ hp)) hn.2⟩
  have hne:k≠p.1:=fun e'=>by
   have:=Gt (l:=r) (k:=p.1) (e:=p.2) hp
   rw [← e',hn.1] at this;cases this
  exact fun c hc c' hc'=>hst.tN (k:=.inl k) (k':=.inl p.1) (hL _ List.mem_cons_self) (hL _ (List.mem_cons_of_mem _ hp)) (fun he=>hne (Sum.inl.inj he)) c hc c' hc'
theorem St.sF (hst:St B h (Sum.elim L F) w) {l:KE} (g:Nat) (hL:∀ p ∈ l,L p.1=some p.2):St B h (Sum.elim (fun k=>if k=g then some (sF l) else if (Ci l k).isSome then none else L k) F) w:=by
  have key:∀ k e,(if k=g then some (KB.sF l) else if (Ci l k).isSome then none else L k)=some e→(k=g∧e=KB.sF l)∨(k≠g∧(Ci l k)=none∧L k=some e):=by
    intro k e he
    split at he
    · rename_i h1;cases he;exact .inl ⟨h1,rfl⟩
    · rename_i h1
      split at he
      · cases he
      · rename_i h2
        refine .inr ⟨h1,?_,he⟩
        cases hl:Ci l k with
        | none=>rfl
        | some x=>rw [hl] at h2;exact absurd rfl h2
  refine ⟨hst.low,hst.base,fun x=>hst.ext x,?_,?_⟩
  · intro k e he
    cases k with
    | inr x=>exact hst.own (k:=.inr x) he
    | inl k =>
      rcases key k e he with ⟨rfl,rfl⟩ | ⟨_,_,hk⟩
      · refine ⟨fun c hc => ?_, fun p hp => (hst.own (k := .inl p.1) (hL p hp)).2⟩
        obtain ⟨p,hp,hc⟩:=List.mem_flatMap.1 hc
        exact (hst.own (k:=.inl p.1) (hL p hp)).1 c hc
      · exact hst.own (k:=.inl k) hk
  · have one:∀ (x:Nat ⊕ κ) e',Sum.elim (fun k=>if k=g then some (KB.sF l) else if (Ci l k).isSome then none else L k) F x=some e'→x ≠ .inl g→∀ c ∈ (KB.sF l).claims,∀ c' ∈ e'.claims,c.1≠c'.1:=by
      intro x e' he hx c hc c' hc'
      obtain ⟨p,hp,hc⟩:=List.mem_flatMap.1 hc
      cases x with
      | inr y=>exact hst.tN (k:=.inl p.1) (k':=.inr y) (hL p hp) he (fun h=>by cases h) c hc c' hc'
      | inl k =>
        rcases key k e' he with ⟨rfl,_⟩ | ⟨_,h1,hk⟩
        · exact absurd rfl hx
        · have hne : p.1 ≠ k := fun e' => by have := Gt (l := l) (k := p.1) (e := p.2) hp; rw [e', h1] at this; cases this
          exact hst.tN (k:=.inl p.1) (k':=.inl k) (hL p hp) hk (fun h=>hne (Sum.inl.inj h)) c hc c' hc'
    intro k k' e e' he he' hne c hc c' hc'
    by_cases h1:k = .inl g
    · subst h1
      have:e=KB.sF l:=by
        rcases key g e he with ⟨_,h⟩ | ⟨h,_⟩
        · exact h
        · exact absurd rfl h
      subst this
      exact one k' e' he' (fun h=>hne h.symm) c hc c' hc'
    · by_cases h2 : k' = .inl g
      · subst h2
        have:e'=KB.sF l:=by
          rcases key g e' he' with ⟨_,h⟩ | ⟨h,_⟩
          · exact h
          · exact absurd rfl h
        subst this
        exact fun h=>one k e he h1 c' hc' c hc h.symm
      · have tr:∀ (x:Nat ⊕ κ) e',Sum.elim (fun k=>if k=g then some (KB.sF l) else if (Ci l k).isSome then none else L k) F x=some e'→x ≠ .inl g→Sum.elim L F x=some e':=by
          intro x e' he hx
          cases x with
          | inr y=>exact he
          | inl k =>
            rcases key k e' he with ⟨rfl,_⟩ | ⟨_,_,hk⟩
            · exact absurd rfl hx
            · exact hk
        exact hst.tN (tr k e he h1) (tr k' e' he' h2) hne c hc c' hc'
theorem St.splitK (hst:St B h (Sum.elim L F) w) {l:KE} {g:Nat} (hg:L g=some (KB.sF l)) (hd:DV l):St B h (Sum.elim (fun k=>match Ci l k with | some e=>some e | none=>if k=g then none else L k) F) w:=by
 obtain ⟨hcl,hok⟩:=hst.own (k:=.inl g) hg
 have key:∀ k e,(match Ci l k with | some e=>some e | none=>if k=g then none else L k)=some e→Ci l k=some e∨(Ci l k=none∧k≠g∧L k=some e):=by
  intro k e he
  cases hl:Ci l k with
  | some e0=>rw [hl] at he;cases he;exact .inl rfl
  | none =>
   rw [hl] at he
   simp only [] at he
   split at he
   ·cases he
   ·rename_i h1;exact .inr ⟨rfl,h1,he⟩
 have cl:∀ {k e c},Ci l k=some e→c ∈ e.claims→c ∈ (KB.sF l).claims:=fun hk hc=>List.mem_flatMap.2 ⟨_,IJ hk,hc⟩
 refine ⟨hst.low,hst.base,fun x=>hst.ext x,?_,?_⟩
 ·intro k e he
  cases k with
  | inr x=>exact hst.own (k:=.inr x) he
  | inl k =>
   rcases key k e he with hk | ⟨_,_,hk⟩
   ·exact ⟨fun c hc=>hcl c (cl hk hc),hok _ (IJ hk)⟩
   ·exact hst.own (k:=.inl k) hk
 ·intro k k' e e' he he' hne c hc c' hc'
  have out:∀ (x:Nat ⊕ κ) e',Sum.elim (fun k=>match Ci l k with | some e=>some e | none=>if k=g then none else L k) F x=some e'→(∃ k,x = .inl k∧Ci l k=some e')∨(x ≠ .inl g∧Sum.elim L F x=some e'):=by
   intro x e' he
   cases x with
   | inr y=>exact .inr ⟨fun h=>(by cases h),he⟩
   | inl k =>
    rcases key k e' he with hk | ⟨_,h1,hk⟩
    ·exact .inl ⟨k,rfl,hk⟩
    ·exact .inr ⟨fun h=>h1 (Sum.inl.inj h),hk⟩
  rcases out k e he with ⟨k1,rfl,h1⟩ | ⟨h1,h2⟩
  ·rcases out k' e' he' with ⟨k2,rfl,h3⟩ | ⟨h3,h4⟩
   ·exact hd.get h1 h3 (fun h=>hne (by rw [h])) c hc c' hc'
   ·exact hst.tN (k:=.inl g) hg h4 (fun h=>h3 h.symm) c (cl h1 hc) c' hc'
  ·rcases out k' e' he' with ⟨k2,rfl,h3⟩ | ⟨h3,h4⟩
   ·exact hst.tN h2 (k':=.inl g) hg h1 c hc c' (cl h3 hc')
   ·exact hst.tN h2 h4 hne c hc c' hc'
end
def YlOk (P:Program) {X ι:Type} (A:ι→List aY) (YE:X→gK→Prop) (Y:X→ι→Option (X×Bool)) (h:H) (l:Nat):Prop :=
 ∀ (i:ι) (x x':X) (b:Bool),Y x i=some (x',b)→∀ (κ:Type) (B:Base) (L:κ→Option gK) (h':H) (w:World) (vs:List Value) (e:gK),lD h h'→St B h' (Sum.elim (fun _:Unit=>some e) L) w→YE x e→(A i).length=vs.length →
  (∀ (j:Nat) (g:aY) (v:Value),(A i)[j]? = some g→vs[j]? = some v→g.p h' undef v) →
  YieldAt (JO none) 0 P l vs.toArray w (fun en w'=>∃ h'' e',en = .returned (.bool b)∧lD h' h''∧St B h'' (Sum.elim (fun _:Unit=>some e') L) w'∧YE x' e')
def MR (P:Program) {X ι:Type} (A:ι→List aY) (YE:X→gK→Prop) (Y:X→ι→Option (X×Bool)):aY :=
 ⟨none,fun h _ v=>∃ l,v = .func (.yield l) #[] #[]∧YlOk P A YE Y h l,fun hl ⟨l,e,k⟩=>⟨l,e,fun i x x' b hY κ B L h' w vs en hl'=>k i x x' b hY κ B L h' w vs en (hl.trans hl')⟩⟩
def yE {X:Type} (YE:X→gK→Prop) (x:X):dW:=fun _ e=>YE x e
theorem Gh.yE {X:Type} {YE:X→gK→Prop} {x:X}:Gh (yE YE x):=fun _ _ _ h=>h
theorem Kt {X ι:Type} {A:ι→List aY} {YE:X→gK→Prop} {Y:X→ι→Option (X×Bool)} (i:ι) {x x':X} {b:Bool} {g:Nat} {z:Operand} {xs:Array Operand} {ts:Array TypeId} (hY:Y x i=some (x',b)) (hd:nN (A i)=true)
  (ho:o.op = .call { callee:=.value z,args:=xs,argTypes:=ts }) (hz:bY N z (MR P A YE Y)) (hargs:uT N (A i) xs.toList):dN P o N [(g,yE YE x)] (fV Rep.bool b) [(g,some (yE YE x'))]:=by
 intro κ B F L h a w hst hn hk hdn next Q hnext _
 obtain ⟨e,hL,hq⟩:=hk.1
 have hL:L g=some e:=hL
 obtain ⟨l,hv,hyl⟩:=hz h a hn
 have hdp:=lG hd
 obtain ⟨hlen,hall⟩:=hargs.spec
 have hst1:St B h (Sum.elim (fun _:Unit=>some e) (Sum.elim (fun k=>if k=g then none else L k) F)) w:=by
  have:=(EG hL).symm ▸ hst
  exact St.out this
 obtain ⟨fn,tmps,assign,body,hy,hR⟩:=hyl i x x' b hY _ B _ h w (xs.toList.map a.eval) e (lD.refl h) hst1 hq (by rw [List.length_map];exact hlen) (by
  intro j gg v hg hv
  rw [List.getElem?_map] at hv
  cases hx:xs.toList[j]? with
  | none=>rw [hx] at hv;cases hv
  | some x =>
   rw [hx] at hv;cases hv
   have:=hall j gg x hg hx h a hn
   unfold aY.dv at this
   rw [hdp gg (List.mem_of_getElem? hg)] at this
   exact this)
 have e1:(xs.toList.map a.eval).toArray=xs.map a.eval:=by apply Array.ext';simp
 rw [e1] at hy
 have hrun:(execOp a.eval o).run P w = .ok (.round l fn tmps assign body) w:=by
  simp only [execOp,ho,Sem.run_bind]
  simp [resolve,hv,Deferred.ofValue,invoke,hy]
 unfold Oper.oH
 rw [hrun]
 show RoundIn (JO none) 0 P l fn tmps assign body w _
 refine hR.mono ?_
 rintro en w' ⟨h',e',rfl,hl,hst',hq'⟩
 refine hnext (.bool b) h' w' _ hl (jZ.2 rfl) hst'.into ?_
 exact lK hq'
def jM (l:Nat) (r:Loop):gK where
 claims:=[(l,0)]
 ok:=fun _ m=>m l=some (.loop r)
 mono:=fun _ x=>x
 frame:=fun hm x=>by rw [hm (l,0) (by simp)];exact x
def lT (D:Nat):gK where
 claims:=[(D,0)]
 ok:=fun _ m=>m D=some (.deferred (some []))
 mono:=fun _ x=>x
 frame:=fun hm x=>by rw [hm (D,0) (by simp)];exact x
def TS (l:Nat) (r:Loop):dW:=fun _ e=>e=jM l r
def JS (D:Nat):dW:=fun _ e=>e=lT D
def NP (r:Loop):Loop:={ r with state:=.busy }
def mark (D:Nat):Deferred:={ target:=.collected D,args:=#[] }
def Rq (Λ:Own):List (Nat×dW)→Prop
 | []=>True
 | (k,q) :: r=>Λ k=some q∧Rq Λ r
def GhL:List (Nat×dW)→Prop
 | []=>True
 | (_,q) :: r=>Gh q∧GhL r
def xOf (js:List Exit):Option Nat→Exit
 | none=>.normal
 | some k=>js.getD k .normal
def Vx:Exit→Option Code
 | .ret=>some .ret
 | .exit id=>some (.exit id)
 | _=>none
def QE:List Exit→Bool
 | []=>true
 | e :: r=>(Vx e).isSome&&QE r
def yl {S ι:Type} (g:S→ι→Option (S×Option Nat)) (m:Nat):S×Option Nat→ι→Option ((S×Option Nat)×Bool):=fun x i=>match x.2 with
 | none=>(match g x.1 i with
  | some (s',j)=>(match j with | none=>some ((s',none),true) | some k=>bif Nat.blt k m then some ((s',some k),false) else none)
  | none=>none)
 | some _=>none
def Xn (n:Nat) {κ:Type} (B:Base) (h0:H) (F:κ→Option gK) (l:Nat) (r:Loop) (D:Nat) (Qs:List (Nat×dW)) (js:List Exit) (j:Option Nat):Exit→Act→World→Prop :=
 fun e a w=>xOf js j=e∧∃ Γ Λ,At B h0 Γ Λ F n a w∧Λ 4998=some (TS l (NP r))∧Λ 4999=some (JS D)∧Rq Λ Qs
section
variable {κ:Type} {B:Base} {h h0:H} {L:Nat→Option gK} {Γ:Ctx} {Λ:Own} {F:κ→Option gK} {n:Nat} {a:Act} {w:World} {l D:Nat} {r:Loop}
theorem LP (hst:St B h (Sum.elim L F) w) {k:Nat} (hL:L k=some (jM l r)) (r':Loop):w.heap[l]? = some (.loop r)∧St B h (Sum.elim (set1 L k (jM l r')) F) (w.putObj l (.loop r')):=by
 obtain ⟨hcl,hok⟩:=hst.own (k:=Sum.inl k) hL
 have hl:w.heap[l]? = some (.loop r):=hok
 have hlt:=(Array.getElem?_eq_some_iff.1 hl).1
 refine ⟨hl,?_⟩
 have hno:=fun o'=>(hcl (l,0) (by simp [jM])).2.2 o' (Nat.zero_le _)
 refine hst.step (Sum.inl k) (fun i=>i=l) (fun i hi _=>⟨_,hL,(l,0),by simp [jM],hi.symm⟩) (by simp) rfl rfl rfl (fun i _ hi=>World.putObj_heap_other hi) (lD.refl h) (fun _ _ _ _=>rfl) ?_ sH ?_
 ·rintro i o' u (rfl | hi) hu
  ·rw [hno o'] at hu;cases hu
  ·rw [hst.fresh hi] at hu;cases hu
 ·intro e' he
  rw [sJ he]
  refine ⟨fun c hc=>?_,World.putObj_heap_same hlt⟩
  simp only [jM,List.mem_singleton] at hc
  subst hc
  exact ⟨.inr ⟨_,hL,(l,0),by simp [jM],rfl⟩,by simpa using hlt,fun o' _=>hno o'⟩
theorem H8 {body:Code} {K:Exit→Act→World→Prop} (hAt:At B h0 Γ Λ F n a w) (h8:Λ 4998=some (TS l r)) (hr:r.state = .ready)
  (hk:∀ w,At B h0 Γ (fun k=>bif Nat.beq 4998 k then some (TS l (NP r)) else Λ k) F n a w→body.oH (some l) P K a w):∃ w₂,(Instr.beginRound l).run P w = .ok () w₂∧body.oH (some l) P K a w₂:=by
 obtain ⟨h,L,hle,hst,rQ,mJ,hsz,hdf⟩:=hAt
 obtain ⟨e,hL,rfl⟩:=rQ 4998 _ h8
 obtain ⟨hl,hst'⟩:=LP hst hL (NP r)
 refine ⟨_,run_beginRound hl hr,hk _ ⟨h,_,hle,hst',?_,mJ,hsz,hdf⟩⟩
 intro k q hq
 cases hb:Nat.beq 4998 k with
 | true=>simp only [hb,cond_true] at hq;cases hq;rw [gX] at hb;subst hb;exact ⟨_,qG,rfl⟩
 | false =>
  simp only [hb,cond_false] at hq
  have n1:k≠4998:=fun x=>by rw [gX.2 x.symm] at hb;cases hb
  obtain ⟨e1,h2,h3⟩:=rQ k q hq
  exact ⟨e1,by simp [set1,n1,h2],h3⟩
theorem retD {fn:Func} {R:Ending→World→Prop} {D:Nat} (hAt:At (B.d (mark D)) h0 Γ Λ F n a w) (h9:Λ 4999=some (JS D))
  (hk:∀ (a:Act) (w:World),At B h0 Γ (fun k=>bif Nat.beq 4999 k then none else Λ k) F n a w→B.df=[]→Gq P fn R .ret a w):B.df=[]→Gq P fn R .ret a w:=by
 intro hB
 obtain ⟨h,L,hle,hst,rQ,mJ,hsz,hdf⟩:=hAt
 obtain ⟨e,hL,rfl⟩:=rQ 4999 _ h9
 obtain ⟨hcl,hok⟩:=hst.own (k:=Sum.inl 4999) hL
 have hD:w.heap[D]? = some (.deferred (some [])):=hok
 have hno:=fun o'=>(hcl (D,0) (by simp [lT])).2.2 o' (Nat.zero_le _)
 have hst':St B h (Sum.elim (fun k=>if k=4999 then none else L k) F) (w.putObj D (.deferred none)):=by
  refine hst.ofD.step (Sum.inl 4999) (fun i=>i=D) (fun i hi _=>⟨_,hL,(D,0),by simp [lT],hi.symm⟩) (by simp) rfl rfl rfl (fun i _ hi=>World.putObj_heap_other hi) (lD.refl h) (fun _ _ _ _=>rfl) ?_ ?_ ?_
  ·rintro i o' u (rfl | hi) hu
   ·rw [hno o'] at hu;cases hu
   ·rw [hst.fresh hi] at hu;cases hu
  ·intro k' e' hne he
   cases k' with
   | inr x=>exact he
   | inl k =>
    have:k≠4999:=fun x=>hne (by rw [x])
    simpa [this] using he
  ·intro e' he;simp at he
 have hdf':a.defers=[mark D]:=by rw [hdf];show mark D :: B.df=_;rw [hB]
 have:=hk { a with defers:=[] } (w.putObj D (.deferred none)) ⟨h,_,hle,hst',?_,fun s=>mJ s,hsz,hB.symm⟩ hB
 ·rcases this with ⟨_,v,h1,h2⟩ | ⟨D',w',h1,_⟩
  ·exact .inr ⟨D,_,hdf',run_takeDeferred hD,v,h1,h2⟩
  ·cases h1
 ·intro k q hq
  cases hb:Nat.beq 4999 k with
  | true=>simp only [hb,cond_true] at hq;cases hq
  | false =>
   simp only [hb,cond_false] at hq
   have n1:k≠4999:=fun x=>by rw [gX.2 x.symm] at hb;cases hb
   obtain ⟨e1,h2,h3⟩:=rQ k q hq
   exact ⟨e1,by simp [n1,h2],h3⟩
end
end Go.KB
namespace Go.KB
variable {P:Program}
def uG:List Nat→Bool
 | []=>true
 | k :: r=>!(has r k)&&uG r
def U5:List (Nat×dW)→KE→Prop
 | (k,q) :: r,(k',e) :: es=>k'=k∧q undef e∧U5 r es
 | [],[]=>True
 | _,_=>False
theorem LQ:∀ {l:KE} {k:Nat},has (l.map (·.1)) k=(Ci l k).isSome:=by
 intro l
 induction l with
 | nil=>intro k;rfl
 | cons x r ih =>
  obtain ⟨k0,e⟩:=x
  intro k
  simp only [List.map_cons,has,Ci]
  cases Nat.beq k0 k with
  | true=>rfl
  | false=>simpa using ih
theorem Rt:∀ {l:KE},uG (l.map (·.1))=true→Dq l=true:=by
 intro l
 induction l with
 | nil=>intro _;rfl
 | cons x r ih =>
  obtain ⟨k0,e⟩:=x
  intro h
  simp only [List.map_cons,uG,LQ,Bool.and_eq_true] at h
  simp only [Dq,Bool.and_eq_true]
  exact ⟨h.1,ih h.2⟩
theorem KC {Λ:Own} {L:Nat→Option gK} {a:Act} (rQ:Jj Λ L a):∀ {Qs:List (Nat×dW)},Rq Λ Qs→GhL Qs→∃ kes:KE,kes.map (·.1)=Qs.map (·.1)∧U5 Qs kes∧∀ p ∈ kes,L p.1=some p.2:=by
 intro Qs
 induction Qs with
 | nil=>intro _ _;exact ⟨[],rfl,trivial,fun p hp=>by cases hp⟩
 | cons x r ih =>
  obtain ⟨k,q⟩:=x
  intro h hg
  obtain ⟨e,hL,hq⟩:=rQ k q h.1
  obtain ⟨kes,h1,h2,h3⟩:=ih h.2 hg.2
  refine ⟨(k,e) :: kes,by simp [h1],⟨rfl,hg.1 _ _ _ hq,h2⟩,fun p hp=>?_⟩
  rcases List.mem_cons.1 hp with rfl | hp
  ·exact hL
  ·exact h3 p hp
theorem NQ:∀ {Qs:List (Nat×dW)} {kes:KE},U5 Qs kes→kes.map (·.1)=Qs.map (·.1):=by
 intro Qs
 induction Qs with
 | nil=>intro kes h;cases kes with
  | nil=>rfl
  | cons _ _=>exact h.elim
 | cons x r ih =>
  obtain ⟨k,q⟩:=x
  intro kes h
  cases kes with
  | nil=>exact h.elim
  | cons y es=>obtain ⟨k',e⟩:=y;obtain ⟨rfl,_,h3⟩:=h;simp [ih h3]
theorem QF:∀ {Qs:List (Nat×dW)} {kes:KE},U5 Qs kes→GhL Qs→∀ {k q},BO Qs k=some q→∃ e,Ci kes k=some e∧∀ v,q v e:=by
 intro Qs
 induction Qs with
 | nil=>intro kes _ _ k q h;cases h
 | cons x r ih =>
  obtain ⟨k0,q0⟩:=x
  intro kes h hg k q hq
  cases kes with
  | nil=>exact h.elim
  | cons y es =>
   obtain ⟨k',e⟩:=y
   obtain ⟨rfl,h2,h3⟩:=h
   simp only [BO,Qz] at hq
   simp only [Ci]
   cases hb:Nat.beq k' k with
   | true=>rw [hb] at hq;cases hq;exact ⟨e,rfl,fun v=>hg.1 _ _ _ h2⟩
   | false=>rw [hb] at hq;exact ih h3 hg.2 hq
def Hf:List (Nat×dW)→List Nat→List Po→List (Nat×dW)
 | _ :: r,g :: gs,.to q :: ps=>(g,q) :: Hf r gs ps
 | (_,q) :: r,g :: gs,.keep :: ps=>(g,q) :: Hf r gs ps
 | _ :: r,_ :: gs,.gone :: ps=>Hf r gs ps
 | _,_,_=>[]
theorem TT {E:Nat→Option gK} {g:Nat→Value}:∀ {pre:List (Nat×dW)} {post:List Po} {gs:List Nat},Dn pre post E (NJ g)→sG [] [] pre post gs→Cj pre gs=true→∀ {k q},BO (Hf pre gs post) k=some q →
  ∃ e k',AL pre gs k=some k'∧E k'=some e∧∀ v,q v e:=by
 intro pre
 induction pre with
 | nil=>intro post gs _ hk _ k q h;cases post <;> cases gs <;> first | exact hk.elim | cases h
 | cons x r ih =>
  obtain ⟨k0,q0⟩:=x
  intro post gs hp hk hc k q hq
  cases post with
  | nil=>cases gs <;> exact hk.elim
  | cons p ps=>cases gs with
   | nil=>exact hk.elim
   | cons g0 gs =>
    obtain ⟨h1,h2⟩:=hk
    simp only [Cj,Bool.and_eq_true,Bool.not_eq_true'] at hc
    have tail:BO (Hf r gs ps) k=some q→∃ e k',AL ((k0,q0) :: r) (g0 :: gs) k=some k'∧E k'=some e∧∀ v,q v e:=fun hq=>by
     obtain ⟨e,k',h3,h4,h5⟩:=ih hp.2 h2 hc.2 hq
     have h6:=(LG h3).1
     have:Nat.beq g0 k=false:=by
      rw [Bool.eq_false_iff,Ne,gX];intro e;subst e;rw [h6] at hc;exact absurd hc.1.1.1 (by simp)
     exact ⟨e,k',by simp only [AL,this,cond_false];exact h3,h4,h5⟩
    have one:∀ q':dW,Gh q'→(∃ e,E k0=some e∧q' (NJ g k0) e)→BO ((g0,q') :: Hf r gs ps) k=some q→∃ e k',AL ((k0,q0) :: r) (g0 :: gs) k=some k'∧E k'=some e∧∀ v,q v e:=by
     rintro q' hgh ⟨e,he,hqe⟩ hq
     simp only [BO,Qz] at hq
     cases hb:Nat.beq g0 k with
     | false=>rw [hb] at hq;exact tail hq
     | true =>
      rw [hb] at hq;cases hq
      exact ⟨e,k0,by simp only [AL,hb,cond_true],he,fun v=>hgh _ _ _ hqe⟩
    have hgh:Gh q0∧∀ q',p = .to q'→Gh q':=by
     rcases h1 with ⟨_,hg,hg'⟩ | ⟨_,x,hx,_⟩
     ·exact ⟨hg,hg'⟩
     ·simp at hx
    cases p with
    | gone=>exact tail hq
    | to q'=>exact one q' (hgh.2 q' rfl) hp.1 hq
    | keep=>exact one q0 hgh.1 hp.1 hq
theorem Pq {l1 l2:List (Nat×dW)} {k:Nat}:BO (l1 ++ l2) k=(match BO l1 k with | some q=>some q | none=>BO l2 k):=by
 induction l1 with
 | nil=>rfl
 | cons x r ih =>
  obtain ⟨k0,q⟩:=x
  simp only [BO,List.cons_append,Qz] at ih ⊢
  cases Nat.beq k0 k with
  | true=>rfl
  | false=>exact ih
theorem QG:∀ {l:List (Nat×dW)} {k:Nat} {q:dW},BO l k=some q→has (l.map (·.1)) k=true:=by
 intro l
 induction l with
 | nil=>intro k q h;cases h
 | cons x r ih =>
  obtain ⟨k0,q0⟩:=x
  intro k q h
  simp only [BO,Qz] at h
  simp only [List.map_cons,has,Bool.or_eq_true]
  cases hb:Nat.beq k0 k with
  | true=>exact .inl rfl
  | false=>rw [hb] at h;exact .inr (ih h)
theorem TU:∀ {pre:List (Nat×dW)} {gs:List Nat} {ps:List Po} {k:Nat},has ((Hf pre gs ps).map (·.1)) k=true→has gs k=true:=by
 intro pre
 induction pre with
 | nil=>intro gs ps k h;cases gs <;> cases ps <;> cases h
 | cons x r ih =>
  obtain ⟨k0,q0⟩:=x
  intro gs ps k h
  cases gs with
  | nil=>cases ps <;> cases h
  | cons g gs=>cases ps with
   | nil=>cases h
   | cons p ps =>
    have two:∀ q:dW,has (((g,q) :: Hf r gs ps).map (·.1)) k=true→has (g :: gs) k=true:=by
     intro q h
     simp only [List.map_cons,has,Bool.or_eq_true] at h
     simp only [has,Bool.or_eq_true]
     exact h.imp id ih
    cases p with
    | gone=>simp only [Hf] at h;simp only [has,ih h,Bool.or_true]
    | to q=>exact two q h
    | keep=>exact two q0 h
def Jr:List Nat→List aY→List (Nat×aY)
 | p :: ps,f :: fs=>(p,f) :: Jr ps fs
 | _,_=>[]
def Pv:List (Nat×aY)→Bool
 | []=>true
 | (_,f) :: r=>f.dep.isNone&&Pv r
theorem Hg:∀ {l:List (Nat×aY)} {s:Nat},Pv l=true→(Eu l s).dep=none:=by
 intro l
 induction l with
 | nil=>intro s _;rfl
 | cons x r ih =>
  obtain ⟨k,f⟩:=x
  intro s h
  simp only [Pv,Bool.and_eq_true] at h
  simp only [Eu,MS]
  cases hb:Nat.beq k s with
  | true =>
   rw [cond_true]
   cases hd:f.dep with
   | none=>rfl
   | some d=>rw [hd] at h;cases h.1
  | false=>exact ih h.2
theorem Ru {h:H} {Γl:List (Nat×aY)}:∀ {ps:List Nat} {A:List aY} {vs:List Value} (tmps:Array Value),uG ps=true→(∀ p ∈ ps,p<tmps.size)→A.length=ps.length→vs.length=ps.length→nN A=true→(∀ s,(Eu Γl s).p h undef (tmps.getD s undef))→(∀ (j:Nat) (g:aY) (v:Value),A[j]? = some g→vs[j]? = some v→g.p h undef v) →
  ∀ s,(Eu (Jr ps A ++ Γl) s).p h undef (((ps.zip vs).foldl (fun t (p:Nat×Value)=>t.setIfInBounds p.1 p.2) tmps).getD s undef):=by
 intro ps
 induction ps with
 | nil=>intro A vs tmps _ _ hA _ _ hG _ s;cases A with
  | nil=>exact hG s
  | cons _ _=>simp at hA
 | cons p ps ih =>
  intro A vs tmps hn hlt hA hv hd hG hargs s
  cases A with
  | nil=>simp at hA
  | cons f A=>cases vs with
   | nil=>simp at hv
   | cons v vs =>
    simp only [uG,Bool.and_eq_true,Bool.not_eq_true'] at hn
    simp only [nN,Bool.and_eq_true] at hd
    -- the others first: p keeps its value
    have keep:∀ (ps:List Nat) (vs:List Value) (t:Array Value),has ps p=false→((ps.zip vs).foldl (fun t (p:Nat×Value)=>t.setIfInBounds p.1 p.2) t).getD p undef=t.getD p undef:=by
     intro ps
     induction ps with
     | nil=>intro vs t _;rfl
     | cons p' ps ih' =>
      intro vs t hh
      cases vs with
      | nil=>rfl
      | cons v' vs =>
       simp only [has,Bool.or_eq_false_iff] at hh
       simp only [List.zip_cons_cons,List.foldl_cons]
       rw [ih' vs _ hh.2]
       have:p'≠p:=fun e=>by rw [gX.2 e] at hh;cases hh.1
       simp [Array.getD_eq_getD_getElem?,Array.getElem?_setIfInBounds_ne this]
    simp only [List.zip_cons_cons,List.foldl_cons,Jr,List.cons_append]
    show (bif Nat.beq p s then f else Eu (Jr ps A ++ Γl) s).p h undef _
    cases hb:Nat.beq p s with
    | true =>
     rw [gX] at hb;subst hb
     rw [keep ps vs _ hn.1]
     have hp:=hlt p (by simp)
     have:(tmps.setIfInBounds p v).getD p undef=v:=by simp [Array.getD_eq_getD_getElem?,hp]
     rw [this]
     exact hargs 0 f v rfl rfl
    | false =>
     rw [cond_false]
     -- facts on p itself are not asked for any more
     have hps:p≠s:=fun e=>by rw [gX.2 e] at hb;cases hb
     have key:∀ (ps:List Nat) (A:List aY) (vs:List Value) (t t':Array Value),t.size=t'.size→(∀ k,k≠p→t.getD k undef=t'.getD k undef)→∀ k,k≠p→((ps.zip vs).foldl (fun t (q:Nat×Value)=>t.setIfInBounds q.1 q.2) t).getD k undef=((ps.zip vs).foldl (fun t (q:Nat×Value)=>t.setIfInBounds q.1 q.2) t').getD k undef:=by
      intro ps
      induction ps with
      | nil=>intro _ vs t t' _ h k hk;exact h k hk
      | cons p' ps ih' =>
       intro A vs t t' hs h k hk
       cases vs with
       | nil=>exact h k hk
       | cons v' vs =>
        simp only [List.zip_cons_cons,List.foldl_cons]
        refine ih' A vs _ _ (by simp [hs]) (fun m hm=>?_) k hk
        by_cases hpm:p'=m
        ·subst hpm
         by_cases hlt:p'<t.size
         ·simp [Array.getD_eq_getD_getElem?,hlt,hs ▸ hlt]
         ·simp [Array.getD_eq_getD_getElem?,hlt,show ¬p'<t'.size by omega]
        ·have:=h m hm
         simpa [Array.getD_eq_getD_getElem?,Array.getElem?_setIfInBounds_ne hpm] using this
     rw [key ps A vs (tmps.setIfInBounds p v) tmps (by simp) (fun k hk=>by simp [Array.getD_eq_getD_getElem?,Array.getElem?_setIfInBounds_ne (Ne.symm hk)]) s (Ne.symm hps)]
     exact ih tmps hn.2 (fun q hq=>hlt q (List.mem_cons_of_mem _ hq)) (by simpa using hA) (by simpa using hv) hd.2 hG (fun j g u hg hu=>hargs (j+1) g u hg hu) s
theorem Px {ps:List Nat}:∀ {vs:List Value} {t:Array Value},((ps.zip vs).foldl (fun t (p:Nat×Value)=>t.setIfInBounds p.1 p.2) t).size=t.size:=by
 induction ps with
 | nil=>intro vs t;rfl
 | cons p ps ih=>intro vs t;cases vs with
  | nil=>rfl
  | cons v vs=>simp only [List.zip_cons_cons,List.foldl_cons];rw [ih];simp
theorem KD:∀ {js:List Exit} {k:Nat},QE js=true→k<js.length→∃ c,Vx (js.getD k .normal)=some c:=by
 intro js
 induction js with
 | nil=>intro k _ h;cases h
 | cons e r ih =>
  intro k h hk
  simp only [QE,Bool.and_eq_true] at h
  cases k with
  | zero=>exact Option.isSome_iff_exists.1 h.1
  | succ k=>simpa using ih h.2 (by simpa using hk)
theorem Vy {e:Exit} {c:Code} {Q:Exit→Act→World→Prop} {a:Act} {w:World} (hc:Vx e=some c) (hq:Q e a w):c.wpIn (JO none) 0 P Q a w:=by
 cases e <;> cases hc
 ·exact wpIn_exit hq
 ·exact wpIn_ret hq
section
variable {κ:Type} {B:Base} {h0:H} {Λ:Own} {F:κ→Option gK} {n:Nat} {a:Act} {w:World}
theorem J8 {S ι:Type} {gf:FuncId} {fn:Func} {C:List aY} {t:Nat} {ps:List Nat} {assign body:Code} {Γl:List (Nat×aY)} {Qq:S→List (Nat×dW)} {A:ι→List aY} {g:S→ι→Option (S×Option Nat)} {js:List Exit} {s0 s:S} {j:Option Nat}
  {F6:List (Nat×dW)} {F7:List Po} {gI ks:List Nat} {Qx:Exit→Act→World→Prop}
  (hAt:At B h0 (Eu Γl) Λ F n a w) (ht:Eu Γl t=oP gf C) (hf:P.funcs[gf]? = some fn) (hbd:qR fn=true)
  (hit:∀ YE:S×Option Nat→gK→Prop,kX P gf (MR P A YE (yl g js.length) :: C) ((5000,yE YE (s0,none)) :: F6) (Po.to (yE YE (s,j)) :: F7) none Vg)
  (hQ0:Rq Λ (Qq s0)) (hks:∀ s,(Qq s).map (·.1)=ks) (hG:∀ s,GhL (Qq s)) (hI:Rq Λ (NG F6 gI)) (hIk:sG [] [] F6 F7 gI)
  (sW:(uG (4997 :: 4998 :: 4999 :: (ks ++ gI))&&Pv Γl&&uG ps&&ps.all (fun p=>Nat.blt p n)&&QE js)=true) (hcc:∀ q,Cj ((5000,q) :: F6) (4997 :: gI)=true) (hA:∀ i,(A i).length=ps.length∧nN (A i)=true)
  (Xo:∀ (s:S) (i:ι) (s':S) (j:Option Nat),g s i=some (s',j)→∀ (κ:Type) (B:Base) (h0:H) (F:κ→Option gK) (l:Nat) (r:Loop) (D:Nat) (a:Act) (w:World),r.state = .ready→At B h0 (Eu (Jr ps (A i) ++ Γl)) (BO ((4998,TS l r) :: (4999,JS D) :: Qq s)) F n a w →
   assign.oH (some l) P (Exit.then (fun a₁ w₁=>∃ w₂,(Instr.beginRound l).run P w₁ = .ok () w₂∧body.oH (some l) P (Xn n B h0 F l r D (Qq s') js j) a₁ w₂) (fun _ _ _=>False)) a w)
  (hdone:∀ (D:Nat) (a:Act) (w:World),At (B.d (mark D)) h0 (Eu Γl) (BO ((4999,JS D) :: (Qq s ++ Hf F6 gI F7))) F n a w→Qx (xOf js j) a w):(Code.rangeFunc (.tmp t) ps.toArray assign body).oH none P Qx a w:=by
 simp only [Bool.and_eq_true] at sW
 obtain ⟨⟨⟨⟨hnd,hdG⟩,hnp⟩,hpl⟩,hjs⟩:=sW
 simp only [qR,Bool.and_eq_true,Bool.not_eq_true'] at hbd
 have hbody:fn.body≠none:=by
  intro hx;rw [hx] at hbd;cases hbd.1
 have hname:fn.name ≠ "runtime.NumGoroutine":=by simpa using hbd.2
 obtain ⟨h,L,hle,hst,rQ,mJ,hsz,hdf⟩:=hAt
 have htv:=mJ t
 rw [ht] at htv
 obtain ⟨cap,hv,hcap⟩:=htv
 have hv:a.eval (.tmp t) = .func (.func gf) #[] cap.toArray:=hv
 refine wpIn_rangeFunc (F:=JO none) (n:=0) ?_
 intro fnid _
 obtain ⟨wB,Js⟩:∃ wB:Loop,wB={ state:=.ready,pending:=none,fn:=fnid,tmps:=a.tmps,params:=ps.toArray,assign,body,defers:=w.heap.size }:=⟨_,rfl⟩
 obtain ⟨D,hD⟩:∃ D,w.heap.size=D:=⟨_,rfl⟩
 obtain ⟨l,hl⟩:∃ l,w.heap.size+1=l:=⟨_,rfl⟩
 refine ⟨w.heap.size+1,[mark w.heap.size],(w.alloc (.deferred (some []))).alloc (.loop wB),{ target:=.fn (.func gf) cap.toArray,args:=#[.func (.yield (w.heap.size+1)) #[] #[]] },(w.alloc (.deferred (some []))).alloc (.loop wB),gf,
  #[.func (.yield (w.heap.size+1)) #[] #[]] ++ cap.toArray,(w.alloc (.deferred (some []))).alloc (.loop wB),by rw [Js];exact run_enterLoop_outer _ _ _ _ _,?_,fun _ _=>trivial,?_,fun hh=>(by cases hh),Hl.2 ?_⟩
 ·simp only [resolve,hv]
  simp [go_sem]
 ·simp [invoke,callFunc,hf,hname,hbody]
 -- the keys
 have hn3:has (ks ++ gI) 4997=false∧has (ks ++ gI) 4998=false∧has (ks ++ gI) 4999=false∧uG (ks ++ gI)=true:=by
  simp only [uG,has,Bool.and_eq_true,Bool.not_eq_true',Bool.or_eq_false_iff] at hnd
  exact ⟨hnd.1.2.2,hnd.2.1.2,hnd.2.2.1,hnd.2.2.2⟩
 have IK:∀ (x y:List Nat) (k:Nat),has (x ++ y) k=(has x k||has y k):=by
  intro x y k
  induction x with
  | nil=>rfl
  | cons z x ih=>simp only [List.cons_append,has,ih,Bool.or_assoc]
 have hdisj:∀ k,has ks k=true→has gI k=true→False:=by
  have:∀ (x y:List Nat),uG (x ++ y)=true→∀ k,has x k=true→has y k=true→False:=by
   intro x
   induction x with
   | nil=>intro y _ k h;cases h
   | cons z x ih =>
    intro y hn k h1 h2
    simp only [List.cons_append,uG,Bool.and_eq_true,Bool.not_eq_true'] at hn
    simp only [has,Bool.or_eq_true] at h1
    rcases h1 with h1 | h1
    ·rw [gX] at h1;subst h1
     rw [IK,h2,Bool.or_true] at hn;cases hn.1
    ·exact ih y hn.2 k h1 h2
  exact this ks gI hn3.2.2.2
 have Py:∀ (x y:List Nat),uG (x ++ y)=true→uG x=true:=by
  intro x
  induction x with
  | nil=>intro y _;rfl
  | cons z x ih =>
   intro y hn
   simp only [List.cons_append,uG,Bool.and_eq_true,Bool.not_eq_true'] at hn
   rw [IK,Bool.or_eq_false_iff] at hn
   simp only [uG,Bool.and_eq_true,Bool.not_eq_true']
   exact ⟨hn.1.1,ih y hn.2⟩
 have Rw:has ks 4997=false∧has ks 4998=false∧has ks 4999=false∧uG ks=true:=by
  have h1:=hn3.1;have h2:=hn3.2.1;have h3:=hn3.2.2.1
  rw [IK,Bool.or_eq_false_iff] at h1 h2 h3
  exact ⟨h1.1,h2.1,h3.1,Py _ _ hn3.2.2.2⟩
 have Xp:has gI 4997=false∧has gI 4998=false∧has gI 4999=false:=by
  have h1:=hn3.1;have h2:=hn3.2.1;have h3:=hn3.2.2.1
  rw [IK,Bool.or_eq_false_iff] at h1 h2 h3
  exact ⟨h1.2,h2.2,h3.2⟩
 have nd:∀ {s:S} {kes:KE} (r:Loop),U5 (Qq s) kes→Dq ((4998,jM l r) :: (4999,lT D) :: kes)=true:=by
  intro s kes r hq
  refine Rt ?_
  have h1:=(NQ hq).trans (hks s)
  simp only [List.map_cons,h1,uG,has,Rw.2.1,Rw.2.2.1,Rw.2.2.2]
  rfl
 -- the state of the loop as an entry
 obtain ⟨xN,Eh⟩:∃ xN:Option Nat→Loop,xN=fun x=>match x with | none=>wB | some k=>{ wB with state:=.done,pending:=Vx (js.getD k .normal) }:=⟨_,rfl⟩
 obtain ⟨YE,hYE⟩:∃ YE:S×Option Nat→gK→Prop,YE=fun x e=>(∀ k,x.2=some k→k<js.length)∧∃ kes,U5 (Qq x.1) kes∧DV ((4998,jM l (xN x.2)) :: (4999,lT D) :: kes)∧e=sF ((4998,jM l (xN x.2)) :: (4999,lT D) :: kes):=⟨_,rfl⟩
 have lkQ:∀ {s:S} {kes:KE} (r:Loop) {k:Nat},U5 (Qq s) kes→has ks k=false→k≠4998→k≠4999→Ci ((4998,jM l r) :: (4999,lT D) :: kes) k=none:=by
  intro s kes r k hq hk h8 h9
  have h1:=LQ (l:=kes) (k:=k)
  rw [(NQ hq).trans (hks s),hk] at h1
  have n8:Nat.beq 4998 k=false:=by rw [Bool.eq_false_iff,Ne,gX];exact fun x=>h8 x.symm
  have n9:Nat.beq 4999 k=false:=by rw [Bool.eq_false_iff,Ne,gX];exact fun x=>h9 x.symm
  simp only [Ci,n8,n9,cond_false]
  cases hl:Ci kes k with
  | none=>rfl
  | some e=>rw [hl] at h1;cases h1
 have lkQ2:∀ {kes:KE} (r:Loop) {k:Nat},k≠4998→k≠4999→Ci ((4998,jM l r) :: (4999,lT D) :: kes) k=Ci kes k:=by
  intro kes r k h8 h9
  have n8:Nat.beq 4998 k=false:=by rw [Bool.eq_false_iff,Ne,gX];exact fun x=>h8 x.symm
  have n9:Nat.beq 4999 k=false:=by rw [Bool.eq_false_iff,Ne,gX];exact fun x=>h9 x.symm
  simp only [Ci,n8,n9,cond_false]
 have ne8:∀ {k:Nat},has ks k=true→k≠4997∧k≠4998∧k≠4999:=fun {k} hk=>⟨fun e=>(by rw [e,Rw.1] at hk;cases hk),fun e=>(by rw [e,Rw.2.1] at hk;cases hk),fun e=>(by rw [e,Rw.2.2.1] at hk;cases hk)⟩
 have ne8I:∀ {k:Nat},has gI k=true→k≠4997∧k≠4998∧k≠4999:=fun {k} hk=>⟨fun e=>(by rw [e,Xp.1] at hk;cases hk),fun e=>(by rw [e,Xp.2.1] at hk;cases hk),fun e=>(by rw [e,Xp.2.2] at hk;cases hk)⟩
 -- the start
 have hst1:=hst.zU (.deferred (some [])) 4999 (lT D) (by intro c hc;simp [lT] at hc;rw [hc,hD]) (by show World.mem _ D=_;rw [← hD];exact zV _ _)
 have hst2:=hst1.zU (.loop wB) 4998 (jM l wB) (by intro c hc;simp [jM] at hc;rw [hc,← hl];simp) (by show World.mem _ l=_;rw [← hl];have:=zV (w.alloc (.deferred (some []))) (.loop wB);rwa [World.size_alloc] at this)
 obtain ⟨kes,hk1,hk2,hk3⟩:=KC rQ hQ0 (hG s0)
 have hkm:∀ p ∈ kes,has ks p.1=true:=by
  intro p hp
  have:=LQ (l:=kes) (k:=p.1)
  rw [hk1.trans (hks s0),Gt (k:=p.1) (e:=p.2) hp] at this
  exact this
 have hL2:∀ p ∈ ((4998,jM l wB) :: (4999,lT D) :: kes),(set1 (set1 L 4999 (lT D)) 4998 (jM l wB)) p.1=some p.2:=by
  intro p hp
  rcases List.mem_cons.1 hp with rfl | hp
  ·simp [set1]
  ·rcases List.mem_cons.1 hp with rfl | hp
   ·simp [set1]
   ·have h1:=ne8 (hkm p hp)
    simp [set1,h1.2.1,h1.2.2,hk3 p hp]
 have hdj:=LC hst2 hL2 (nd wB hk2)
 have hst3:=hst2.sF 4997 hL2
 have hcap':(#[.func (.yield (w.heap.size+1)) #[] #[]] ++ cap.toArray:Array Value)=(Value.func (.yield l) #[] #[] :: cap).toArray:=by rw [← hl];apply Array.ext';simp
 rw [hcap']
 -- a round
 have hyl:YlOk P A YE (yl g js.length) h l:=by
  intro i x x' b hY κ' B' L' h1 w1 vs e hle1 hr1 hye hlen hargs
  subst hYE
  obtain ⟨xs,xj⟩:=x
  have hxj:xj=none:=by
   cases xj with
   | none=>rfl
   | some _=>cases hY
  subst hxj
  obtain ⟨_,kes1,hq1,hd1,rfl⟩:=hye
  have hro:xN none=wB:=by rw [Eh]
  simp only [hro] at hd1 hr1
  cases hg:g xs i with
  | none=>simp only [yl,hg] at hY;cases hY
  | some y =>
   obtain ⟨s',j'⟩:=y
   have hjb:x'=(s',j')∧b=j'.isNone∧∀ k,j'=some k→k<js.length:=by
    simp only [yl,hg] at hY
    cases j' with
    | none=>cases hY;exact ⟨rfl,rfl,fun k hk=>(by cases hk)⟩
    | some k =>
     simp only [] at hY
     cases hb:Nat.blt k js.length with
     | false=>rw [hb] at hY;cases hY
     | true =>
      rw [hb] at hY;cases hY
      rw [Nat.blt_eq] at hb
      exact ⟨rfl,rfl,fun k' hk=>(by cases hk;exact hb)⟩
   obtain ⟨rfl,rfl,hjlt⟩:=hjb
   have hr2:St B' h1 (Sum.elim (fun k:Nat=>if k=4997 then some (sF ((4998,jM l wB) :: (4999,lT D) :: kes1)) else none) L') w1:=by
    refine hr1.Bq (fun k=>match k with | .inl _=>.inl () | .inr x=>.inr x) ?_ ?_
    ·intro k e he
     cases k with
     | inr x=>exact he
     | inl k =>
      simp only [Sum.elim_inl] at he
      split at he
      ·exact he
      ·cases he
    ·intro k k' e e' hk hk' hne
     cases k with
     | inr x=>cases k' with
      | inr x'=>intro he;exact hne (by rw [Sum.inr.inj he])
      | inl k'=>intro he;cases he
     | inl k=>cases k' with
      | inr x'=>intro he;cases he
      | inl k' =>
       intro _
       simp only [Sum.elim_inl] at hk hk'
       split at hk
       ·split at hk'
        ·rename_i h1 h2;exact hne (by rw [h1,h2])
        ·cases hk'
       ·cases hk
   have hr3:=hr2.splitK (l:=(4998,jM l wB) :: (4999,lT D) :: kes1) (g:=4997) (by simp) hd1
   have hl1:w1.heap[l]? = some (.loop wB):=(hr3.own (k:=Sum.inl 4998) (e:=jM l wB) rfl).2
   refine ⟨fnid,_,assign,body,by have:=run_yield (P:=P) (args:=vs.toArray) hl1 (by rw [Js];simp [← hlen,(hA i).1]);rw [Js] at this;exact this,roundIn_of_wpIn trivial ?_⟩
   have hfold:∀ (t:Array Value),(ps.toArray.zip vs.toArray).foldl (fun tmps (x:Nat×Value)=>tmps.setIfInBounds x.1 x.2) t=(ps.zip vs).foldl (fun t (p:Nat×Value)=>t.setIfInBounds p.1 p.2) t:=by
    intro t
    rw [← Array.foldl_toList]
    congr 1
    simp
   have hact:At B'.e h1 (Eu (Jr ps (A i) ++ Γl)) (BO ((4998,TS l wB) :: (4999,JS D) :: Qq xs)) L' n { tmps:=(ps.toArray.zip vs.toArray).foldl (fun tmps (x:Nat×Value)=>tmps.setIfInBounds x.1 x.2) a.tmps,defers:=[] } w1:=by
    refine ⟨h1,_,lD.refl h1,hr3.toE,?_,?_,?_,rfl⟩
    ·intro k q hq
     simp only [BO,Qz] at hq
     cases hb8:Nat.beq 4998 k with
     | true=>rw [hb8] at hq;cases hq;rw [gX] at hb8;subst hb8;exact ⟨_,rfl,rfl⟩
     | false =>
      rw [hb8] at hq
      cases CY:Nat.beq 4999 k with
      | true=>rw [CY] at hq;cases hq;rw [gX] at CY;subst CY;exact ⟨_,rfl,rfl⟩
      | false =>
       rw [CY] at hq
       obtain ⟨e,he,hqv⟩:=QF hq1 (hG xs) hq
       refine ⟨e,?_,hqv _⟩
       have n8:k≠4998:=fun x=>by rw [gX.2 x.symm] at hb8;cases hb8
       have n9:k≠4999:=fun x=>by rw [gX.2 x.symm] at CY;cases CY
       simp only [lkQ2 wB n8 n9,he]
    ·intro s1
     have:=Ru (h:=h1) (ps:=ps) (A:=A i) (vs:=vs) a.tmps hnp (fun p hp=>by have:=List.all_eq_true.1 hpl p hp;rw [Nat.blt_eq] at this;rw [hsz];exact this) (hA i).1 (by rw [← hlen,(hA i).1]) (hA i).2 (fun s2=>by
      have h2:=mJ s2
      unfold aY.at aY.dv at h2
      rw [Hg hdG] at h2
      exact (Eu Γl s2).mono hle1 h2) hargs s1
     unfold aY.at aY.dv
     have hdp:(Eu (Jr ps (A i) ++ Γl) s1).dep=none:=by
      have:Pv (Jr ps (A i) ++ Γl)=true:=by
       have:∀ (ps:List Nat) (A:List aY),nN A=true→Pv (Jr ps A ++ Γl)=true:=by
        intro ps
        induction ps with
        | nil=>intro A _;exact hdG
        | cons p ps ih =>
         intro A hA
         cases A with
         | nil=>exact hdG
         | cons f A =>
          simp only [nN,Bool.and_eq_true] at hA
          simp only [Jr,List.cons_append,Pv,Bool.and_eq_true]
          exact ⟨hA.1,ih A hA.2⟩
       exact this ps (A i) (hA i).2
      exact Hg this
     rw [hdp]
     show (Eu (Jr ps (A i) ++ Γl) s1).p h1 undef (Array.getD _ s1 undef)
     rw [hfold];exact this
    ·show Array.size _=n
     rw [hfold,Px];exact hsz
   refine wpIn_mono (Xo xs i s' j' hg κ' B'.e h1 L' l wB D _ w1 (by rw [Js]) hact) ?_
   intro e1 a1 w2 hq2
   cases e1 <;> first | exact hq2.elim | skip
   obtain ⟨w3,hb3,hbd3⟩:=hq2
   refine ⟨w3,hb3,wpIn_mono hbd3 ?_⟩
   rintro e2 a2 w4 ⟨hx2,Γ2,Λ2,⟨h2,L2,hle2,Xq,Xr,hsat2,_,_⟩,h8,h9,hQ2⟩
   obtain ⟨e8,hL8,rfl⟩:=Xr 4998 _ h8
   obtain ⟨e9,hL9,rfl⟩:=Xr 4999 _ h9
   obtain ⟨TV,hk21,hk22,hk23⟩:=KC Xr hQ2 (hG s')
   have hkm2:∀ p ∈ TV,has ks p.1=true:=by
    intro p hp
    have:=LQ (l:=TV) (k:=p.1)
    rw [hk21.trans (hks s'),Gt (k:=p.1) (e:=p.2) hp] at this
    exact this
   have fin:∀ (jump:Option Code) (r':Loop),r'={ NP wB with state:=if jump.isNone then .ready else .done,pending:=jump }→xN j'=r'→jump.isNone=j'.isNone →
     ∃ v w',(Instr.endRound l jump).run P w4 = .ok v w'∧∃ h'' e',(Ending.returned v) = .returned (.bool j'.isNone)∧lD h1 h''∧St B' h'' (Sum.elim (fun _:Unit=>some e') L') w'∧((∀ k,(s',j').2=some k→k<js.length)∧∃ kes,U5 (Qq (s',j').1) kes∧DV ((4998,jM l (xN (s',j').2)) :: (4999,lT D) :: kes)∧e'=sF ((4998,jM l (xN (s',j').2)) :: (4999,lT D) :: kes)):=by
    intro jump r' hr' hro' hji
    obtain ⟨hl4,hst5⟩:=LP Xq hL8 r'
    have hL5:∀ p ∈ ((4998,jM l r') :: (4999,lT D) :: TV),(set1 L2 4998 (jM l r')) p.1=some p.2:=by
     intro p hp
     rcases List.mem_cons.1 hp with rfl | hp
     ·simp [set1]
     ·rcases List.mem_cons.1 hp with rfl | hp
      ·simp [set1,hL9]
      ·have h1:=ne8 (hkm2 p hp)
       simp [set1,h1.2.1,hk23 p hp]
    have hdj5:=LC hst5 hL5 (nd r' hk22)
    have Xt:=(hst5.sF 4997 hL5).one 4997 (e:=sF ((4998,jM l r') :: (4999,lT D) :: TV)) (by simp)
    refine ⟨.bool jump.isNone,w4.putObj l (.loop r'),by have:=run_endRound (P:=P) jump hl4;rw [hr'];exact this,h2,_,by rw [hji],hle2,Xt.ofE,hjlt,TV,hk22,?_,?_⟩
    ·show DV ((4998,jM l (xN j')) :: _);rw [hro'];exact hdj5
    ·show _=sF ((4998,jM l (xN j')) :: _);rw [hro']
   cases j' with
   | none =>
    have:e2 = .normal:=hx2.symm
    subst this
    obtain ⟨v,w5,hrun,hR⟩:=fin none wB (by rw [Js];rfl) (by rw [Eh]) rfl
    exact ⟨v,w5,hrun,hR⟩
   | some k =>
    have hx2:js.getD k .normal=e2:=hx2
    obtain ⟨c,hc⟩:=KD hjs (hjlt k rfl)
    obtain ⟨v,w5,hrun,hR⟩:=fin (some c) { NP wB with state:=.done,pending:=some c } rfl (by rw [Eh];simp only [];rw [hc];rfl) rfl
    rw [hx2] at hc
    cases e2 <;> cases hc
    ·exact ⟨v,w5,hrun,hR⟩
    ·exact ⟨v,w5,hrun,hR⟩
 -- the call
 have hpre:Jm ((5000,yE YE (s0,none)) :: F6) (fun k=>(toC ((5000,yE YE (s0,none)) :: F6) (4997 :: gI) k).bind (fun k=>if k=4997 then some (sF ((4998,jM l wB) :: (4999,lT D) :: kes)) else if (Ci ((4998,jM l wB) :: (4999,lT D) :: kes) k).isSome then none else (set1 (set1 L 4999 (lT D)) 4998 (jM l wB)) k)) (NJ fun k=>(Value.func (.yield l) #[] #[] :: cap).getD k undef):=by
  refine TR (N:=[]) (xs:=[]) (cap:=Value.func (.yield l) #[] #[] :: cap) (h:=h) (a:=a) (post:=Po.to (yE YE (s,j)) :: F7) (L:=fun k=>if k=4997 then some (sF ((4998,jM l wB) :: (4999,lT D) :: kes)) else if (Ci ((4998,jM l wB) :: (4999,lT D) :: kes) k).isSome then none else (set1 (set1 L 4999 (lT D)) 4998 (jM l wB)) k) trivial (sG.gh rfl Gh.yE (fun q hq=>by cases hq;exact Gh.yE) hIk) ⟨⟨_,rfl,?_⟩,?_⟩ (fun k gg hk=>by rw [hk];rfl) (hcc _)
  ·subst hYE
   exact ⟨fun k hk=>(by cases hk),kes,hk2,(by rw [Eh];exact hdj),(by rw [Eh])⟩
  ·have:∀ (pre:List (Nat×dW)) (gs:List Nat),Rq Λ (NG pre gs)→(∀ k,has gs k=true→has gI k=true)→Pj (NG pre gs) (fun k=>if k=4997 then some (sF ((4998,jM l wB) :: (4999,lT D) :: kes)) else if (Ci ((4998,jM l wB) :: (4999,lT D) :: kes) k).isSome then none else (set1 (set1 L 4999 (lT D)) 4998 (jM l wB)) k) a:=by
    intro pre
    induction pre with
    | nil=>intro gs _ _;trivial
    | cons x r ih =>
     obtain ⟨k0,q0⟩:=x
     intro gs hq hm
     cases gs with
     | nil=>trivial
     | cons g0 gs =>
      refine ⟨?_,ih gs hq.2 (fun k hk=>hm k (by simp only [has,hk,Bool.or_true]))⟩
      obtain ⟨e,he,hqe⟩:=rQ g0 q0 hq.1
      have hg0:has gI g0=true:=hm g0 (by simp only [has,Nat.beq_refl,Bool.true_or])
      have hne:=ne8I hg0
      have hk0:has ks g0=false:=by
       cases hx:has ks g0 with
       | false=>rfl
       | true=>exact (hdisj g0 hx hg0).elim
      refine ⟨e,?_,hqe⟩
      simp only [lkQ wB hk2 hk0 hne.2.1 hne.2.2]
      simp [hne.1,set1,hne.2.1,hne.2.2,he]
   exact this F6 gI hI (fun k hk=>hk)
 refine (Xm (hit YE) (hcc _) hst3 (by simp [hcap.1]) hpre ?_).mono ?_
 ·intro j1 g1 u hg1 hu
  cases j1 with
  | zero=>cases hg1;cases hu;exact ⟨l,rfl,hyl⟩
  | succ j1=>exact hcap.2 j1 g1 u (by simpa using hg1) (by simpa using hu)
 rintro en w5 ⟨v,h5,E5,rfl,hle5,hst5,hpost,_⟩
 obtain ⟨⟨e5,hE5,Xu⟩,Xv⟩:=hpost
 have Xu:YE (s,j) e5:=Xu
 subst hYE
 obtain ⟨hjlt,kes5,hq5,hd5,rfl⟩:=Xu
 have h47:AL ((5000,yE (fun x e=>(∀ k,x.2=some k→k<js.length)∧∃ kes,U5 (Qq x.1) kes∧DV ((4998,jM l (xN x.2)) :: (4999,lT D) :: kes)∧e=sF ((4998,jM l (xN x.2)) :: (4999,lT D) :: kes)) (s0,none)) :: F6) (4997 :: gI) 4997=some 5000:=rfl
 have Xt:=hst5.splitK (l:=(4998,jM l (xN j)) :: (4999,lT D) :: kes5) (g:=4997) (by simp only [h47];exact hE5) hd5
 obtain ⟨JM,hst7⟩:=LP Xt (k:=4998) (l:=l) (r:=xN j) rfl { xN j with state:=.exhausted }
 have hbusy:(xN j).state ≠ .busy:=by
  rw [Eh]
  cases j with
  | none=>rw [Js];simp
  | some k=>simp
 have hend:=run_endLoop (P:=P) JM hbusy
 have hAtE:At (B.d (mark D)) h0 (Eu Γl) (BO ((4999,JS D) :: (Qq s ++ Hf F6 gI F7))) F n { a with defers:=[mark w.heap.size] ++ a.defers } (w5.putObj l (.loop { xN j with state:=.exhausted })):=by
  refine ⟨h5,_,hle.trans hle5,hst7.toD,?_,?_,hsz,by rw [hD,hdf];rfl⟩
  ·intro k q hq
   simp only [BO,Qz] at hq
   cases CY:Nat.beq 4999 k with
   | true=>rw [CY] at hq;cases hq;rw [gX] at CY;subst CY;exact ⟨lT D,rfl,rfl⟩
   | false =>
    rw [CY,cond_false] at hq
    have hq:BO (Qq s ++ Hf F6 gI F7) k=some q:=hq
    rw [Pq] at hq
    cases hm:BO (Qq s) k with
    | some q1 =>
     rw [hm] at hq;cases hq
     have hhk:=QG hm
     rw [hks s] at hhk
     have hne:=ne8 hhk
     obtain ⟨e,he,hqv⟩:=QF hq5 (hG s) hm
     refine ⟨e,?_,hqv _⟩
     simp only [set1,hne.2.1,if_false,lkQ2 _ hne.2.1 hne.2.2,he]
    | none =>
     rw [hm] at hq
     have hq:BO (Hf F6 gI F7) k=some q:=hq
     have hgk:=TU (QG hq)
     have hne:=ne8I hgk
     have hk0:has ks k=false:=by
      cases hx:has ks k with
      | false=>rfl
      | true=>exact (hdisj k hx hgk).elim
     have Jt:=hcc (yE (fun x e=>(∀ k,x.2=some k→k<js.length)∧∃ kes,U5 (Qq x.1) kes∧DV ((4998,jM l (xN x.2)) :: (4999,lT D) :: kes)∧e=sF ((4998,jM l (xN x.2)) :: (4999,lT D) :: kes)) (s0,none))
     simp only [Cj,Bool.and_eq_true] at Jt
     obtain ⟨e,k',h1,h2,h3⟩:=TT Xv hIk Jt.2 hq
     refine ⟨e,?_,h3 _⟩
     have n7:Nat.beq 4997 k=false:=by rw [Bool.eq_false_iff,Ne,gX];exact fun x=>hne.1 x.symm
     simp only [set1,hne.2.1,if_false,lkQ _ hq5 hk0 hne.2.1 hne.2.2,hne.1,AL,n7,cond_false,h1,h2]
  ·intro s1
   have h2:=(Eu Γl s1).mono hle5 (mJ s1)
   unfold aY.at aY.dv at h2 ⊢
   rw [Hg hdG] at h2 ⊢
   exact h2
 rw [hl]
 cases j with
 | none=>exact ⟨none,_,(by rw [hend];congr 1;rw [Eh,Js]),hdone D _ _ hAtE⟩
 | some k =>
  obtain ⟨c,hc⟩:=KD hjs (hjlt k rfl)
  exact ⟨some c,_,(by rw [hend];congr 1;rw [Eh];exact hc),Vy hc (hdone D _ _ hAtE)⟩
end
end Go.KB
