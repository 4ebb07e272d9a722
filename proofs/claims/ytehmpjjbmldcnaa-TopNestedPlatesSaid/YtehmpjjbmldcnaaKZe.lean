/- Functions that use what lies at known places: entries under keys that are slots, or no slots. Ranges over maps that are owned: whatever the order. Ranges over functions: the iterator, yield, the rounds. The rule on ranges over functions. No condition. -/
import Derived.Test.YtehmpjjbmldcnaaKZd
import Derived.Maps.RangeRun
import Derived.RangeFuncCalls
import Derived.RangeFuncBound
namespace Go.KB
variable {P:Program} {o:Oper} {N:List (Nat×aO)} {α β γ:Type}
def TV (vs:Nat→Value) (k:Nat):Value:=bif Nat.ble 5000 k then undef else vs k
def OI:List (Nat×gK)→(Nat→Option gQ)→(Nat→Value)→Prop
 | [],_,_=>True
 | (k,q) :: r,E,g=>(∃ e,E k=some e∧q (g k) e)∧OI r E g
inductive Po where
 | keep
 | to (q:gK)
 | gone
def Fb:List (Nat×gK)→List Po→(Nat→Option gQ)→(Nat→Value)→Prop
 | (k,q0) :: r,p :: ps,E,g=>(match p with | .to q=>∃ e,E k=some e∧q (g k) e | .keep=>∃ e,E k=some e∧q0 (g k) e | .gone=>True)∧Fb r ps E g
 | _,_,_,_=>True
def UC (own:Option gK) (E:Nat→Option gQ) (u:Value):Prop:=match own with | some q=>∃ e,E 9999=some e∧q u e | none=>True
def Gm (P:Program) (f:FuncId) (args:List aO) (pre:List (Nat×gK)) (post:List Po) (own:Option gK) (res:aO):Prop :=
 ∀ (κ:Type) (B:Base) (L:κ→Option gQ) (h:H) (w:World) (vs:List Value) (E:Nat→Option gQ),St B h (Sum.elim E L) w→args.length=vs.length→OI pre E (TV fun k=>vs.getD k undef) →
  (∀ (j:Nat) (g:aO) (u:Value),args[j]? = some g→vs[j]? = some u→g.p h undef u) →
  Calls P f vs.toArray w (fun e w'=>∃ u h' E',e = .returned u∧lD h h'∧St B h' (Sum.elim E' L) w'∧Fb pre post E' (TV fun k=>vs.getD k undef)∧UC own E' u∧res.p h' undef u)
def J6 (P:Program) (fn:Func) {κ:Type} (B:Base) (h0:H) (F:κ→Option gQ) (vM:Nat→Value) (pre:List (Nat×gK)) (post:List Po) (own:Option gK) (res:aO):Exit→Act→World→Prop :=
 fun e a w=>B.df=[]→IQ P fn (fun e w'=>∃ u h' E',e = .returned u∧lD h0 h'∧St B h' (Sum.elim E' F) w'∧Fb pre post E' (TV vM)∧UC own E' u∧res.p h' undef u) e a w
theorem OI.get {E:Nat→Option gQ} {g:Nat→Value}:∀ {pre:List (Nat×gK)},OI pre E g→∀ {k q},NF pre k=some q→∃ e,E k=some e∧q (g k) e:=by
 intro pre
 induction pre with
 | nil=>intro _ k q h;cases h
 | cons x r ih =>
  obtain ⟨k0,q0⟩:=x
  intro h k q hq
  simp only [NF,lkO] at hq
  cases hk:Nat.beq k0 k with
  | true=>rw [hk] at hq;cases hq;rw [kL] at hk;subst hk;exact h.1
  | false=>rw [hk] at hq;exact ih h.2 hq
def YF (pm:List Nat) (vM:Nat→Value):List (Nat×aO):=pm.map fun i=>(i,xE (vM i))
theorem YG {Γ:List (Nat×aO)} {vM:Nat→Value}:∀ {pm:List Nat} {s:Nat},L6 (YF pm vM ++ Γ) s=xE (vM s)∨L6 (YF pm vM ++ Γ) s=L6 Γ s:=by
 intro pm
 induction pm with
 | nil=>intro s;exact .inr rfl
 | cons i r ih =>
  intro s
  show (bif Nat.beq i s then xE (vM i) else L6 (YF r vM ++ Γ) s)=_∨(bif Nat.beq i s then xE (vM i) else L6 (YF r vM ++ Γ) s)=_
  cases hk:Nat.beq i s with
  | true=>rw [kL] at hk;subst hk;exact .inl rfl
  | false=>exact ih
theorem J7 {vs:List Value} {m:Nat} (k:Nat):Act.gt { tmps:=vs.toArray ++ Array.replicate m undef,defers:=[] } k=vs.getD k undef:=by
  simp only [Act.gt,Array.getD_eq_getD_getElem?,List.getD_eq_getElem?_getD]
  by_cases hk:k<vs.length
  · rw [Array.getElem?_append_left (by simpa using hk)];simp
  · rw [Array.getElem?_append_right (by simp; omega)]
    simp only [Array.getElem?_replicate,List.getElem?_eq_none (Nat.le_of_not_lt hk)]
    split <;> rfl
theorem H6 {n:Nat} {f:FuncId} {fn:Func} {c:Code} {args:List aO} {pre:List (Nat×gK)} {post:List Po} {own:Option gK} {res:aO} (pm:List Nat) (hf:P.funcs[f]? = some fn) (hb:fn.body=some c) (hn:fn.ntmps=n)
  (rV:(Nat.ble args.length n&&Nat.ble n 5000&&mM args)=true)
  (hwp:∀ (κ:Type) (B:Base) (h0:H) (F:κ→Option gQ) (a:Act) (w:World) (vM:Nat→Value),At B h0 (Qy (YF pm vM ++ Ci 0 args)) (NF pre) F n a w→c.oK none P (J6 P fn B h0 F vM pre post own res) a w):Gm P f args pre post own res:=by
 intro κ B L h w vs E hst hl hpre hargs
 simp only [Bool.and_eq_true,Nat.ble_eq] at rV
 obtain ⟨⟨hlen,hn5⟩,hdp⟩:=rV
 have yI:=jI hdp
 refine xk rfl hf hb (hwp _ B.e h L _ w (fun k=>vs.getD k undef) ⟨h,E,lD.refl h,hst.toE,?_,?_,?_,rfl⟩) (fun _ _ ⟨v,h',x,he,hl,hs,hp⟩=>⟨v,h',x,he,hl,hs.ofE,hp⟩)
 ·intro s q hs
  obtain ⟨e,he,hq⟩:=hpre.get hs
  refine ⟨e,he,?_⟩
  rw [J7]
  unfold TV at hq
  cases h5:Nat.ble 5000 s with
  | false=>rw [h5] at hq;exact hq
  | true =>
   rw [h5] at hq
   rw [Nat.ble_eq] at h5
   rw [List.getD_eq_getElem?_getD,List.getElem?_eq_none (by omega)]
   exact hq
 ·intro s
  rcases YG (pm:=pm) (Γ:=Ci 0 args) (vM:=fun k=>vs.getD k undef) (s:=s) with h1 | h1
  ·show (L6 (YF pm _ ++ Ci 0 args) s).at _ _ _
   rw [h1];exact J7 s
  ·show (L6 (YF pm _ ++ Ci 0 args) s).at _ _ _
   rw [h1]
   rcases Bg args 0 s with h1 | ⟨j,g,h1,h2,h3⟩
   ·rw [h1];exact trivial
   ·rw [h3]
    have hj:=(List.getElem?_eq_some_iff.1 h1).1
    have hv:vs[j]? = some vs[j]:=List.getElem?_eq_getElem (by omega)
    have:=hargs j g _ h1 hv
    unfold aO.at aO.dv
    rw [yI g (List.mem_of_getElem? h1),h2,Nat.zero_add,J7,List.getD_eq_getElem?_getD,hv]
    exact this
 ·simp;omega
section
variable {κ:Type} {B:Base} {h h0:H} {L:Nat→Option gQ} {Γ:Ctx} {Λ:Own} {F:κ→Option gQ} {n:Nat} {a:Act} {w:World} {vM:Nat→Value} {pre:List (Nat×gK)} {post:List Po} {res:aO}
def Gh (q:gK):Prop:=∀ v v' e,q v e→q v' e
theorem Gh.at {q:gK} {sv:Value}:Gh (vK q sv):=fun _ _ _ h=>h
def PostA (Γ:Ctx) (Λ:Own) (vM:Nat→Value):List (Nat×gK)→List Po→Prop
 | (k,q0) :: r,p :: ps=>(match p with | .to q=>Λ k=some q∧((Nat.ble 5000 k=true∧Gh q)∨(Nat.ble 5000 k=false∧Γ k=xE (vM k))) | .keep=>Λ k=some q0∧((Nat.ble 5000 k=true∧Gh q0)∨(Nat.ble 5000 k=false∧Γ k=xE (vM k))) | .gone=>True)∧PostA Γ Λ vM r ps
 | _,_=>True
theorem gKA {x:Option gK} {b:Bool} {q:gK} {sv:Value} {X:Prop} (e:(x,b)=(some (vK q sv),true)):x=some (vK q sv)∧((b=true∧Gh (vK q sv))∨X):=⟨congrArg Prod.fst e,.inl ⟨congrArg Prod.snd e,Gh.at⟩⟩
theorem PostA.ok {E:Nat→Option gQ} (yQ:L8 Λ L a) (qY:Sat Γ h a):∀ {pre:List (Nat×gK)} {post:List Po},PostA Γ Λ vM pre post→(∀ k q,(k,q) ∈ pre→E k=L k)→Fb pre post E (TV vM):=by
 intro pre
 induction pre with
 | nil=>intro post _ _;cases post <;> trivial
 | cons x r ih =>
  obtain ⟨k,q0⟩:=x
  intro post hp hE
  cases post with
  | nil=>trivial
  | cons p ps =>
   refine ⟨?_,ih hp.2 (fun k q hk=>hE k q (List.mem_cons_of_mem _ hk))⟩
   have key:∀ q,Λ k=some q∧((Nat.ble 5000 k=true∧Gh q)∨(Nat.ble 5000 k=false∧Γ k=xE (vM k)))→∃ e,E k=some e∧q (TV vM k) e:=by
    rintro q ⟨h1,h2⟩
    obtain ⟨e,hL,hq⟩:=yQ k q h1
    refine ⟨e,by rw [hE k q0 (by simp)];exact hL,?_⟩
    unfold TV
    rcases h2 with ⟨h5,hg⟩ | ⟨h5,hf⟩
    ·exact hg _ _ _ hq
    ·rw [h5,cond_false]
     have:=qY k
     rw [hf] at this
     have hv:a.gt k=vM k:=this
     rw [← hv];exact hq
   cases p with
   | gone=>trivial
   | to q=>exact key q hp.1
   | keep=>exact key q0 hp.1
def Rl (P:Program) (Γ:Ctx) (Λ:Own) (fn:Func) (res:aO):Prop :=
 ∀ (κ:Type) (B:Base) (F:κ→Option gQ) (h:H) (a:Act) (w:World),∀ L,St B h (Sum.elim L F) w→L8 Λ L a→Sat Γ h a→∃ v,(results fn a.tmps).run P w = .ok v w∧res.p h undef v
theorem XQ {fn:Func} (hr:fn.results = #[]):Rl P Γ Λ fn Uc:=fun _ _ _ _ a w _ _ _ _=>⟨.tuple #[],by simp [results,hr],rfl⟩
theorem Ur {fn:Func} {rv:ResultVar} {g:aO} (hr:fn.results = #[rv]) (h1:J8 P Γ Λ rv g):Rl P Γ Λ fn g:=fun _ B F h a w L hst yQ qY=>by
 obtain ⟨u,hu,hp⟩:=h1 _ B F h a w L hst yQ qY
 exact ⟨u,by rw [wH];simp [hr,hu],hp⟩
theorem Wv {fn:Func} (hA:PostA Γ Λ vM pre post) (hR:Rl P Γ Λ fn res) (hAt:At B h0 Γ Λ F n a w):J6 P fn B h0 F vM pre post none res .ret a w:=by
 obtain ⟨h,L,hl,hst,yQ,qY,_,hdf⟩:=hAt
 obtain ⟨u,hu,hp⟩:=hR _ B F h a w L hst yQ qY
 exact fun hB=>.inl ⟨hdf.trans hB,u,hu,u,h,L,rfl,hl,hst,hA.ok yQ qY (fun _ _ _=>rfl),trivial,hp⟩
theorem XP {fn:Func} (hA:PostA Γ Λ vM pre post) (hR:Rl P Γ Λ fn res) (hAt:At B h0 Γ Λ F n a w):J6 P fn B h0 F vM pre post none res .normal a w:=Wv hA hR hAt
end
def UD (C:List aO) (h:H) (cap:List Value):Prop:=cap.length=C.length∧∀ (j:Nat) (g:aO) (u:Value),C[j]? = some g→cap[j]? = some u→g.p h undef u
def qi (f:FuncId) (C:List aO):aO:=⟨none,fun h _ v=>∃ cap:List Value,v = .func (.func f) #[] cap.toArray∧UD C h cap,fun hl ⟨cap,e,h1,k⟩=>⟨cap,e,h1,fun j g u hg hu=>g.mono hl (k j g u hg hu)⟩⟩
theorem Ut {f:FuncId} {C:List aO} {xs:Array Operand} (hd:mM C=true) (ho:o.op = .makeFunc (.func f) #[] xs) (hargs:qA N C xs.toList):dw P o N [] (qi f C) [] :=
 dw.lX fun h a w _ hn=>by
  have hdp:=jI hd
  obtain ⟨hlen,hall⟩:=hargs.spec
  refine ⟨.func (.func f) #[] (xs.map a.eval),by simp [execOp,ho,Instr.makeFunc],xs.toList.map a.eval,by congr 1;apply Array.ext';simp,by rw [List.length_map];exact hlen.symm,fun j g u hg hu=>?_⟩
  rw [List.getElem?_map] at hu
  cases hx:xs.toList[j]? with
  | none=>rw [hx] at hu;cases hu
  | some x =>
   rw [hx] at hu;cases hu
   have:=hall j g x hg hx h a hn
   unfold aO.dv at this
   rw [hdp g (List.mem_of_getElem? hg)] at this
   exact this
def Gt (P:Program) (N:List (Nat×aO)) (o:Oper) (xs:List Operand) (f:FuncId) (C:List aO):Prop :=
 ∀ (h:H) (a:Act) (w:World),AU N h a→∃ cap:List Value,UD C h cap∧(execOp a.eval o).run P w = .ok (.enter f (xs.map a.eval ++ cap).toArray) w
theorem H7 {f:FuncId} {fn:Func} {xs:Array Operand} {ts:Array TypeId} (hf:P.funcs[f]? = some fn) (hbd:qm fn=true) (ho:o.op = .call { callee:=.value (.func f),args:=xs,argTypes:=ts }):Gt P N o xs.toList f []:=by
 intro h a w _
 simp only [qm,Bool.and_eq_true,Bool.not_eq_true'] at hbd
 have hbody:fn.body≠none:=by
  intro hx;rw [hx] at hbd;cases hbd.1
 have hname:fn.name ≠ "runtime.NumGoroutine":=by simpa using hbd.2
 refine ⟨[],⟨rfl,fun j g u hg=>by simp at hg⟩,?_⟩
 have e:(xs.toList.map a.eval ++ []).toArray=xs.map a.eval:=by apply Array.ext';simp
 rw [e]
 simp [execOp,ho,resolve,Act.eval,Deferred.ofValue,invoke,callFunc,hf,hname,hbody]
theorem Cc {f:FuncId} {fn:Func} {C:List aO} {z:Operand} {xs:Array Operand} {ts:Array TypeId} (hf:P.funcs[f]? = some fn) (hbd:qm fn=true) (ho:o.op = .call { callee:=.value z,args:=xs,argTypes:=ts }) (hz:bJ N z (qi f C)):Gt P N o xs.toList f C:=by
 intro h a w hn
 simp only [qm,Bool.and_eq_true,Bool.not_eq_true'] at hbd
 have hbody:fn.body≠none:=by
  intro hx;rw [hx] at hbd;cases hbd.1
 have hname:fn.name ≠ "runtime.NumGoroutine":=by simpa using hbd.2
 obtain ⟨cap,hv,hc⟩:=hz h a hn
 refine ⟨cap,hc,?_⟩
 have e:(xs.toList.map a.eval ++ cap).toArray=xs.map a.eval ++ cap.toArray:=by apply Array.ext';simp
 rw [e]
 simp [execOp,ho,resolve,hv,Deferred.ofValue,invoke,callFunc,hf,hname,hbody]
def toC:List (Nat×gK)→List Nat→Nat→Option Nat
 | (k,_) :: r,g :: gs,x=>bif Nat.beq k x then some g else toC r gs x
 | _,_,_=>none
def G6:List (Nat×gK)→List Nat→Nat→Option Nat
 | (k,_) :: r,g :: gs,x=>bif Nat.beq g x then some k else G6 r gs x
 | _,_,_=>none
def hasK:List (Nat×gK)→Nat→Bool
 | [],_=>false
 | (k,_) :: r,x=>Nat.beq k x||hasK r x
def Fe:List (Nat×gK)→List Nat→Bool
 | (k,_) :: r,g :: gs=>!(has gs g) && !(hasK r k) && !(Nat.beq k 9999)&&Fe r gs
 | [],[]=>true
 | _,_=>false
theorem Rn:∀ {pre:List (Nat×gK)} {gs:List Nat} {k g:Nat},toC pre gs k=some g→has gs g=true∧hasK pre k=true:=by
 intro pre
 induction pre with
 | nil=>intro gs k g h;cases gs <;> cases h
 | cons x r ih =>
  obtain ⟨k0,q⟩:=x
  intro gs k g h
  cases gs with
  | nil=>cases h
  | cons g0 gs =>
   simp only [toC] at h
   cases hk:Nat.beq k0 k with
   | true=>rw [hk] at h;cases h;simp [has,hasK,hk,Nat.beq_refl]
   | false=>rw [hk] at h;have:=ih h;simp [has,hasK,this.1,this.2]
theorem Ro:∀ {pre:List (Nat×gK)} {gs:List Nat} {k g:Nat},G6 pre gs g=some k→has gs g=true∧hasK pre k=true:=by
 intro pre
 induction pre with
 | nil=>intro gs k g h;cases gs <;> cases h
 | cons x r ih =>
  obtain ⟨k0,q⟩:=x
  intro gs k g h
  cases gs with
  | nil=>cases h
  | cons g0 gs =>
   simp only [G6] at h
   cases hk:Nat.beq g0 g with
   | true=>rw [hk] at h;cases h;simp [has,hasK,hk,Nat.beq_refl]
   | false=>rw [hk] at h;have:=ih h;simp [has,hasK,this.1,this.2]
theorem YH:∀ {pre:List (Nat×gK)} {gs:List Nat} {k g:Nat},Fe pre gs=true→toC pre gs k=some g→G6 pre gs g=some k:=by
 intro pre
 induction pre with
 | nil=>intro gs k g _ h;cases gs <;> cases h
 | cons x r ih =>
  obtain ⟨k0,q⟩:=x
  intro gs k g hc h
  cases gs with
  | nil=>cases h
  | cons g0 gs =>
   simp only [Fe,Bool.and_eq_true,Bool.not_eq_true'] at hc
   simp only [toC] at h
   simp only [G6]
   cases hk:Nat.beq k0 k with
   | true=>rw [hk] at h;cases h;rw [kL] at hk;rw [hk,Nat.beq_refl];rfl
   | false =>
    rw [hk] at h
    have h1:=Rn h
    have h2:Nat.beq g0 g=false:=by
     rw [Bool.eq_false_iff,Ne,kL];intro e;subst e;rw [h1.1] at hc;exact absurd hc.1.1.1 (by simp)
    rw [h2];exact ih hc.2 h
theorem UE:∀ {pre:List (Nat×gK)} {gs:List Nat} {k g:Nat},Fe pre gs=true→G6 pre gs g=some k→toC pre gs k=some g:=by
 intro pre
 induction pre with
 | nil=>intro gs k g _ h;cases gs <;> cases h
 | cons x r ih =>
  obtain ⟨k0,q⟩:=x
  intro gs k g hc h
  cases gs with
  | nil=>cases h
  | cons g0 gs =>
   simp only [Fe,Bool.and_eq_true,Bool.not_eq_true'] at hc
   simp only [G6] at h
   simp only [toC]
   cases hk:Nat.beq g0 g with
   | true=>rw [hk] at h;cases h;rw [kL] at hk;rw [hk,Nat.beq_refl];rfl
   | false =>
    rw [hk] at h
    have h1:=Ro h
    have h2:Nat.beq k0 k=false:=by
     rw [Bool.eq_false_iff,Ne,kL];intro e;subst e;rw [h1.2] at hc;exact absurd hc.1.1.2 (by simp)
    rw [h2];exact ih hc.2 h
theorem SX:∀ {pre:List (Nat×gK)} {gs:List Nat},Fe pre gs=true→hasK pre 9999=false:=by
 intro pre
 induction pre with
 | nil=>intro gs _;rfl
 | cons x r ih =>
  obtain ⟨k0,q⟩:=x
  intro gs hc
  cases gs with
  | nil=>cases hc
  | cons g0 gs =>
   simp only [Fe,Bool.and_eq_true,Bool.not_eq_true'] at hc
   simp only [hasK,hc.1.2,ih hc.2,Bool.or_self]
def UB:List (Nat×gK)→List Nat→List (Nat×gK)
 | (_,q) :: r,g :: gs=>(g,q) :: UB r gs
 | _,_=>[]
def Ey:List Nat→List Po→Gs
 | g :: gs,.to q :: ps=>(g,some q) :: Ey gs ps
 | g :: gs,.gone :: ps=>(g,none) :: Ey gs ps
 | _ :: gs,.keep :: ps=>Ey gs ps
 | _,_=>[]
def NE (own:Option gK) (d:Option Nat):Gs:=match own,d with | some q,some d=>[(d,some q)] | _,_=>[]
def xh (N:List (Nat×aO)) (xs:List Operand):List (Nat×gK)→List Po→List Nat→Prop
 | (k,q) :: r,p :: ps,g :: gs=>((Nat.ble 5000 k=true∧Gh q∧(∀ q',p = .to q'→Gh q'))∨(Nat.ble 5000 k=false∧∃ x,xs[k]? = some x∧bJ N x (Ls g)))∧xh N xs r ps gs
 | [],[],[]=>True
 | _,_,_=>False
theorem xh.gh {xs:List Operand} {k g:Nat} {q:gK} {p:Po} {r ps gs} (h5:Nat.ble 5000 k=true) (h1:Gh q) (h2:∀ q',p = .to q'→Gh q') (h:xh N xs r ps gs):xh N xs ((k,q) :: r) (p :: ps) (g :: gs):=⟨.inl ⟨h5,h1,h2⟩,h⟩
theorem xh.slot {xs:List Operand} {k g:Nat} {q:gK} {p:Po} {x:Operand} {r ps gs} (h5:Nat.ble 5000 k=false) (h1:xs[k]? = some x) (h2:bJ N x (Ls g)) (h:xh N xs r ps gs):xh N xs ((k,q) :: r) (p :: ps) (g :: gs):=⟨.inr ⟨h5,x,h1,h2⟩,h⟩
theorem Cj:∀ {gs:List Nat} {post:List Po} {s:Nat},has gs s=false→oz (Ey gs post) s=none:=by
 intro gs
 induction gs with
 | nil=>intro post s _;cases post <;> rfl
 | cons g gs ih =>
  intro post s h
  cases post with
  | nil=>rfl
  | cons p ps =>
   simp only [has,Bool.or_eq_false_iff] at h
   cases p <;> simp only [Ey,oz,h.1,cond_false] <;> exact ih h.2
theorem YI:∀ {pre:List (Nat×gK)} {gs:List Nat} {s:Nat},Fe pre gs=true→G6 pre gs s=none→has gs s=false:=by
 intro pre
 induction pre with
 | nil=>intro gs s hc h;cases gs with
  | nil=>rfl
  | cons _ _=>cases hc
 | cons x r ih =>
  obtain ⟨k0,q⟩:=x
  intro gs s hc h
  cases gs with
  | nil=>rfl
  | cons g gs =>
   simp only [Fe,Bool.and_eq_true,Bool.not_eq_true'] at hc
   simp only [G6] at h
   cases hb:Nat.beq g s with
   | true=>rw [hb] at h;cases h
   | false=>rw [hb] at h;simp only [has,hb,Bool.false_or];exact ih hc.2 h
section
variable {L:Nat→Option gQ} {h:H} {a:Act} {xs:List Operand} {cap:List Value}
theorem YJ {E:Nat→Option gQ} (hn:AU N h a):∀ {pre:List (Nat×gK)} {post:List Po} {gs:List Nat},xh N xs pre post gs→SY (UB pre gs) L a→(∀ k g,toC pre gs k=some g→E k=L g)→Fe pre gs=true→OI pre E (TV fun k=>(xs.map a.eval ++ cap).getD k undef):=by
 intro pre
 induction pre with
 | nil=>intro post gs _ _ _ _;trivial
 | cons x r ih =>
  obtain ⟨k,q⟩:=x
  intro post gs hk hK hE hc
  cases post with
  | nil=>cases gs <;> exact hk.elim
  | cons p ps=>cases gs with
   | nil=>exact hk.elim
   | cons g gs =>
    obtain ⟨h1,h2⟩:=hk
    obtain ⟨⟨e,hL,hq⟩,hK⟩:=hK
    have hc0:=hc
    simp only [Fe,Bool.and_eq_true,Bool.not_eq_true'] at hc
    refine ⟨⟨e,by rw [hE k g (by simp [toC,Nat.beq_refl])];exact hL,?_⟩,ih h2 hK (fun k' g' hk'=>hE k' g' ?_) hc.2⟩
    ·unfold TV
     rcases h1 with ⟨h5,hg,_⟩ | ⟨h5,y,hy,hyx⟩
     ·exact hg _ _ _ hq
     ·rw [h5,cond_false]
      have hv:a.eval y=a.gt g:=hyx h a hn
      have:(xs.map a.eval ++ cap).getD k undef=a.eval y:=by
       have hlt:=(List.getElem?_eq_some_iff.1 hy).1
       rw [List.getD_eq_getElem?_getD,List.getElem?_append_left (by simpa using hlt),List.getElem?_map,hy];rfl
      show q ((xs.map a.eval ++ cap).getD k undef) e
      rw [this,hv];exact hq
    ·have h3:=Rn hk'
     have:Nat.beq k k'=false:=by
      rw [Bool.eq_false_iff,Ne,kL];intro e;subst e;rw [h3.2] at hc;exact absurd hc.1.1.2 (by simp)
     simp only [toC,this,cond_false];exact hk'
theorem YK {E:Nat→Option gQ} {L':Nat→Option gQ} {a':Act} (hn:AU N h a) {s:Nat} (ha:a'.gt s=a.gt s):∀ {pre:List (Nat×gK)} {post:List Po} {gs:List Nat},xh N xs pre post gs→Fb pre post E (TV fun k=>(xs.map a.eval ++ cap).getD k undef) →
  Fe pre gs=true→∀ k,G6 pre gs s=some k→L' s=E k →
  (∃ q,oz (Ey gs post) s=some (some q)∧∃ e,L' s=some e∧q (a'.gt s) e)∨oz (Ey gs post) s=some none∨(oz (Ey gs post) s=none∧∃ q,(s,q) ∈ UB pre gs∧∃ e,L' s=some e∧q (a'.gt s) e):=by
 intro pre
 induction pre with
 | nil=>intro post gs _ _ _ k hk;cases gs <;> cases hk
 | cons x r ih =>
  obtain ⟨k0,q⟩:=x
  intro post gs hk hp hc k hof hL
  cases post with
  | nil=>cases gs <;> exact hk.elim
  | cons p ps=>cases gs with
   | nil=>exact hk.elim
   | cons g gs =>
    obtain ⟨h1,h2⟩:=hk
    simp only [Fe,Bool.and_eq_true,Bool.not_eq_true'] at hc
    simp only [G6] at hof
    cases hb:Nat.beq g s with
    | false =>
     rw [hb] at hof
     have hlk:oz (Ey (g :: gs) (p :: ps)) s=oz (Ey gs ps) s:=by
      cases p <;> simp [Ey,oz,hb]
     rw [hlk]
     rcases ih h2 hp.2 hc.2 k hof hL with h | h | ⟨h3,q',h4,h5⟩
     ·exact .inl h
     ·exact .inr (.inl h)
     ·exact .inr (.inr ⟨h3,q',List.mem_cons_of_mem _ h4,h5⟩)
    | true =>
     rw [hb] at hof;cases hof
     rw [kL] at hb;subst hb
     have key:∀ q':gK,(Nat.ble 5000 k0=true→Gh q')→(∃ e,E k0=some e∧q' (TV (fun k=>(xs.map a.eval ++ cap).getD k undef) k0) e)→∃ e,L' g=some e∧q' (a'.gt g) e:=by
      rintro q' hgh ⟨e,he,hq⟩
      refine ⟨e,by rw [hL];exact he,?_⟩
      unfold TV at hq
      rcases h1 with ⟨h5,_,_⟩ | ⟨h5,y,hy,hyx⟩
      ·exact hgh h5 _ _ _ hq
      ·rw [h5,cond_false] at hq
       have hv:a.eval y=a.gt g:=hyx h a hn
       have:(xs.map a.eval ++ cap).getD k0 undef=a.eval y:=by
        have hlt:=(List.getElem?_eq_some_iff.1 hy).1
        rw [List.getD_eq_getElem?_getD,List.getElem?_append_left (by simpa using hlt),List.getElem?_map,hy];rfl
       have hq:q' ((xs.map a.eval ++ cap).getD k0 undef) e:=hq
       rw [this,hv] at hq
       rw [ha];exact hq
     cases p with
     | gone=>exact .inr (.inl (by simp [Ey,oz,Nat.beq_refl]))
     | to q' =>
      refine .inl ⟨q',by simp [Ey,oz,Nat.beq_refl],key q' (fun h5=>?_) hp.1⟩
      rcases h1 with ⟨_,_,hg⟩ | ⟨h6,_⟩
      ·exact hg q' rfl
      ·rw [h6] at h5;cases h5
     | keep =>
      refine .inr (.inr ⟨(by simp only [Ey];exact Cj hc.1.1.1),q,List.mem_cons_self,key q (fun h5=>?_) hp.1⟩)
      rcases h1 with ⟨_,hg,_⟩ | ⟨h6,_⟩
      ·exact hg
      ·rw [h6] at h5;cases h5
end
theorem J9 {U V:Gs} {s:Nat}:oz (U ++ V) s=(match oz U s with | some e=>some e | none=>oz V s):=by
 induction U with
 | nil=>rfl
 | cons x r ih =>
  obtain ⟨k,e⟩:=x
  simp only [List.cons_append,oz]
  cases Nat.beq k s with
  | true=>rfl
  | false=>exact ih
theorem Gn {f:FuncId} {args C:List aO} {pre:List (Nat×gK)} {post:List Po} {own:Option gK} {res:aO} {xs:List Operand} {gs:List Nat} {K:List (Nat×gK)} {U:Gs}
    (hc:Gm P f (args ++ C) pre post own res) (hE:Gt P N o xs f C) (hd:mM (res :: args)=true) (rV:(Fe pre gs && !(match o.dst with | some d=>has gs d | none=>false))=true)
    (hargs:qA N args xs) (hkey:xh N xs pre post gs) (hK:UB pre gs=K) (hU:Ey gs post ++ NE own o.dst=U):dw P o N K res U:=by
  subst hK;subst hU
  intro κ B F L h a w hst hn hk hdn next Q _ hnext
  simp only [Bool.and_eq_true,Bool.not_eq_true'] at rV
  obtain ⟨hcc,hdg⟩:=rV
  obtain ⟨cap,hcap,hrun⟩:=hE h a w hn
  have hdp:=jI hd
  obtain ⟨hlen,hall⟩:=hargs.spec
  have hal:=hargs.spec.1
  unfold Oper.oK
  rw [hrun,zu]
  have hst1:St B h (Sum.elim (fun k=>(toC pre gs k).bind L) (Sum.elim (fun s=>if (G6 pre gs s).isSome then none else L s) F)) w:=by
    refine hst.Dc (fun k=>match k with | .inl k=>.inl ((toC pre gs k).getD 0) | .inr (.inl s)=>.inl s | .inr (.inr x)=>.inr x) ?_ ?_
    · intro k e he
      cases k with
      | inl k =>
        simp only [Sum.elim_inl] at he
        cases ht:toC pre gs k with
        | none=>rw [ht] at he;cases he
        | some g=>rw [ht] at he;simpa [ht] using he
      | inr k=>cases k with
        | inl s =>
          simp only [Sum.elim_inr,Sum.elim_inl] at he
          split at he
          · cases he
          · exact he
        | inr x=>exact he
    · intro k k' e e' hk1 hk2 hne
      have key:∀ k e,(toC pre gs k).bind L=some e→∃ g,toC pre gs k=some g∧G6 pre gs g=some k:=by
        intro k e he
        cases ht:toC pre gs k with
        | none=>rw [ht] at he;cases he
        | some g=>exact ⟨g,rfl,YH hcc ht⟩
      have keyS:∀ s e,(if (G6 pre gs s).isSome then none else L s)=some e→G6 pre gs s=none:=by
        intro s e he
        split at he
        · cases he
        · rename_i hh;simpa using hh
      cases k with
      | inl k =>
        obtain ⟨g,hg,hg'⟩:=key k e hk1
        cases k' with
        | inl k' =>
          obtain ⟨g2,hg2,YL⟩:=key k' e' hk2
          intro he
          simp only [hg,hg2,Option.getD_some] at he
          have:=Sum.inl.inj he
          rw [this,YL] at hg';cases hg';exact hne rfl
        | inr k'=>cases k' with
          | inl s =>
            intro he
            simp only [hg,Option.getD_some] at he
            have:=Sum.inl.inj he
            have h2:=keyS s e' hk2
            rw [← this,hg'] at h2;cases h2
          | inr x=>intro he;cases he
      | inr k=>cases k with
        | inl s =>
          have h2:=keyS s e hk1
          cases k' with
          | inl k' =>
            obtain ⟨g2,hg2,YL⟩:=key k' e' hk2
            intro he
            simp only [hg2,Option.getD_some] at he
            have:=Sum.inl.inj he
            rw [this,YL] at h2;cases h2
          | inr k'=>cases k' with
            | inl s'=>intro he;exact hne (by rw [Sum.inl.inj he])
            | inr x=>intro he;cases he
        | inr x=>cases k' with
          | inl k'=>intro he;cases he
          | inr k'=>cases k' with
            | inl s'=>intro he;cases he
            | inr x'=>intro he;exact hne (by rw [Sum.inr.inj he])
  refine (hc _ B _ h w (xs.map a.eval ++ cap) _ hst1 (by rw [List.length_append,List.length_append,List.length_map,hal,hcap.1]) (YJ hn hkey hk (fun k g hg=>by rw [hg];rfl) hcc) ?_).mono ?_
  · intro j g u hg hu
    by_cases hj:j<args.length
    · rw [List.getElem?_append_left hj] at hg
      rw [List.getElem?_append_left (by rw [List.length_map];omega),List.getElem?_map] at hu
      cases hx:xs[j]? with
      | none=>rw [hx] at hu;cases hu
      | some x =>
        rw [hx] at hu;cases hu
        have:=hall j g x hg hx h a hn
        unfold aO.dv at this
        rw [hdp g (List.mem_cons_of_mem _ (List.mem_of_getElem? hg))] at this
        exact this
    · rw [List.getElem?_append_right (by omega)] at hg
      rw [List.getElem?_append_right (by rw [List.length_map];omega),List.length_map,← hal] at hu
      exact hcap.2 _ g u hg hu
  · rintro e w' ⟨v,h',E',rfl,hl,hst',hpost,hown,hp⟩
    refine hnext v h' w' (fun s=>if o.dst=some s then (if own.isSome then E' 9999 else none) else match G6 pre gs s with | some k=>E' k | none=>L s) hl ?_ ?_ ?_
    · unfold aO.dv
      rw [hdp res List.mem_cons_self]
      exact hp
    · refine hst'.Dc (fun k => match k with | .inl s => (if o.dst = some s then .inl 9999 else match G6 pre gs s with | some k => .inl k | none => .inr (.inl s)) | .inr x => .inr (.inr x)) ?_ ?_
      · intro k e he
        cases k with
        | inr x=>exact he
        | inl s =>
          simp only [Sum.elim_inl] at he
          simp only []
          split at he
          · rename_i h1
            rw [if_pos h1]
            split at he
            · exact he
            · cases he
          · rename_i h1
            rw [if_neg h1]
            cases ho:G6 pre gs s with
            | some k=>rw [ho] at he;exact he
            | none=>rw [ho] at he;simpa [ho] using he
      · intro k k' e e' hk1 hk2 hne
        have k9:∀ s,G6 pre gs s≠some 9999:=by
          intro s he
          have:=(Ro he).2
          rw [SX hcc] at this;cases this
        cases k with
        | inr x=>cases k' with
          | inr x'=>intro he;exact hne (by rw [Sum.inr.inj (Sum.inr.inj he)])
          | inl s =>
            intro he
            simp only [] at he
            split at he
            · cases he
            · cases ho:G6 pre gs s <;> rw [ho] at he <;> cases he
        | inl s=>cases k' with
          | inr x =>
            intro he
            simp only [] at he
            split at he
            · cases he
            · cases ho:G6 pre gs s <;> rw [ho] at he <;> cases he
          | inl s' =>
            have hss:s≠s':=fun x=>hne (by rw [x])
            intro he
            simp only [] at he
            by_cases h1:o.dst=some s
            · by_cases h2 : o.dst = some s'
              · rw [h1] at h2;exact hss (Option.some.inj h2)
              · rw [if_pos h1,if_neg h2] at he
                cases ho:G6 pre gs s' with
                | none=>rw [ho] at he;cases he
                | some k=>rw [ho] at he;exact k9 s' (by rw [ho];exact congrArg some (Sum.inl.inj he).symm)
            · by_cases h2 : o.dst = some s'
              · rw [if_neg h1,if_pos h2] at he
                cases ho:G6 pre gs s with
                | none=>rw [ho] at he;cases he
                | some k=>rw [ho] at he;exact k9 s (by rw [ho];exact congrArg some (Sum.inl.inj he))
              · rw [if_neg h1,if_neg h2] at he
                cases ho:G6 pre gs s with
                | none=>cases ho':G6 pre gs s' with
                  | none=>rw [ho,ho'] at he;exact hss (Sum.inl.inj (Sum.inr.inj he))
                  | some k'=>rw [ho,ho'] at he;cases he
                | some k=>cases ho':G6 pre gs s' with
                  | none=>rw [ho,ho'] at he;cases he
                  | some k' =>
                    rw [ho,ho'] at he
                    have:=Sum.inl.inj he
                    subst this
                    have h1:=UE hcc ho
                    have h2:=UE hcc ho'
                    rw [h1] at h2;exact hss (Option.some.inj h2)
    · intro s
      unfold full
      rw [J9,J9]
      by_cases hds:o.dst=some s
      · have hg : has gs s = false := by rw [hds] at hdg; exact hdg
        rw [Cj hg]
        simp only []
        cases own with
        | none =>
          simp [NE,oz,hds,Nat.beq_refl]
        | some q =>
          obtain ⟨e,he,hq⟩:=hown
          simp only [NE,hds,oz,Nat.beq_refl,cond_true,if_pos,Option.isSome_some]
          exact ⟨e,he,by rw [fO (hdn s hds)];exact hq⟩
      · have ha:(a.put o.dst v).gt s=a.gt s:=xU hds
        have hrest:∀ e,oz (NE own o.dst) s=some e→False:=by
          intro e he
          cases own with
          | none=>cases he
          | some q=>cases hd':o.dst with
            | none=>rw [hd'] at he;cases he
            | some d =>
              rw [hd'] at he
              simp only [NE,oz] at he
              cases hb:Nat.beq d s with
              | true=>rw [kL] at hb;subst hb;exact hds hd'
              | false=>rw [hb] at he;cases he
        cases hof:G6 pre gs s with
        | some k =>
          have hfin:∀ e,oz (NE own o.dst) s=some e→False:=hrest
          have h0:oz (full [] o.dst) s=none:=by
            unfold full
            cases hd':o.dst with
            | none=>rfl
            | some d =>
              simp only [List.nil_append,oz]
              cases hb:Nat.beq d s with
              | true=>rw [kL] at hb;subst hb;exact absurd hd' hds
              | false=>rfl
          unfold full at h0
          rw [List.nil_append] at h0
          rcases YK (E:=E') (L':=fun s=>if o.dst=some s then (if own.isSome then E' 9999 else none) else match G6 pre gs s with | some k=>E' k | none=>L s) hn ha hkey hpost hcc k hof (by simp only [if_neg hds,hof]) with ⟨q,h1,h2⟩ | h1 | ⟨h1,h2⟩
          · rw [h1];exact h2
          · rw [h1];trivial
          · rw [h1]
            simp only []
            cases hr:oz (NE own o.dst) s with
            | some e=>exact (hfin e hr).elim
            | none =>
              simp only []
              rw [h0]
              exact .inr h2
        | none =>
          rw [Cj (YI hcc hof)]
          simp only []
          cases hr:oz (NE own o.dst) s with
          | some e=>exact (hrest e hr).elim
          | none =>
            simp only []
            have:oz (full [] o.dst) s=none:=by
              unfold full
              cases hd':o.dst with
              | none=>rfl
              | some d =>
                simp only [List.nil_append,oz]
                cases hb:Nat.beq d s with
                | true=>rw [kL] at hb;subst hb;exact absurd hd' hds
                | false=>rfl
            unfold full at this
            rw [List.nil_append] at this
            rw [this]
            exact .inl (by simp only [if_neg hds,hof])
end Go.KB
namespace Go.KB
variable {P:Program} {o:Oper} {N:List (Nat×aO)} {α β:Type}
theorem Bh.split {f:α→Value} {rv:Rep β} {h:H}:∀ {es:List MapEntry} {l:List (α×β)} {e:MapEntry},Bh f rv h es l→e ∈ es→∃ e1 e2 r1 p r2,es=e1 ++ e :: e2∧l=r1 ++ p :: r2∧e.key=f p.1∧rv.val h e.val p.2∧Bh f rv h (e1 ++ e2) (r1 ++ r2)
 | [],_,_,_,he=>by cases he
 | x :: es,[],_,hr,_=>hr.elim
 | x :: es,p :: l,e,⟨hx,hr⟩,he=>by
  rcases List.mem_cons.1 he with rfl | he
  ·exact ⟨[],es,[],p,l,rfl,rfl,hx.1,hx.2,hr⟩
  ·obtain ⟨e1,e2,r1,p',r2,h1,h2,h3,h4,h5⟩:=Bh.split hr he
   exact ⟨x :: e1,e2,p :: r1,p',r2,by rw [h1];rfl,by rw [h2];rfl,h3,h4,hx,h5⟩
section
variable {ρ:Option Nat} {κ:Type} {B:Base} {h0:H} {Γ:Ctx} {Λ:Own} {F:κ→Option gQ} {n:Nat} {a:Act} {w:World} {Q:Exit→Act→World→Prop} {sm si:Value} {f:α→Value} {rv:Rep β} {l rem:List (α×β)}
end
end Go.KB
namespace Go.KB
variable {P:Program} {o:Oper} {N:List (Nat×aO)} {α β:Type}
abbrev KE:=List (Nat×gQ)
def lkE:KE→Nat→Option gQ
 | [],_=>none
 | (k,e) :: r,s=>bif Nat.beq k s then some e else lkE r s
def XT (l:KE):Prop:=l.Pairwise fun p p'=>Ff p.2.claims p'.2.claims
theorem Rq:∀ {l:KE} {k:Nat} {e:gQ},lkE l k=some e→(k,e) ∈ l:=by
 intro l
 induction l with
 | nil=>intro k e h;cases h
 | cons x r ih =>
  obtain ⟨k0,e0⟩:=x
  intro k e h
  simp only [lkE] at h
  cases hk:Nat.beq k0 k with
  | true=>rw [hk] at h;cases h;rw [kL] at hk;subst hk;simp
  | false=>rw [hk] at h;exact List.mem_cons_of_mem _ (ih h)
theorem XT.get {l:KE} (hd:XT l):∀ {k k':Nat} {e e':gQ},lkE l k=some e→lkE l k'=some e'→k≠k'→Ff e.claims e'.claims:=by
 induction l with
 | nil=>intro k k' e e' h;cases h
 | cons x r ih =>
  obtain ⟨k0,e0⟩:=x
  intro k k' e e' h h' hne
  obtain ⟨h1,h2⟩:=List.pairwise_cons.1 hd
  simp only [lkE] at h h'
  cases hk:Nat.beq k0 k with
  | true =>
   rw [hk] at h;cases h
   rw [kL] at hk;subst hk
   have hk':Nat.beq k0 k'=false:=by rw [Bool.eq_false_iff,Ne,kL];exact hne
   rw [hk'] at h'
   exact h1 _ (Rq h')
  | false =>
   rw [hk] at h
   cases hk':Nat.beq k0 k' with
   | true =>
    rw [hk'] at h';cases h'
    have:=h1 _ (Rq h)
    exact fun c hc c' hc' he=>this c' hc' c hc he.symm
   | false=>rw [hk'] at h';exact ih h2 h h' hne
section
variable {κ:Type} {B:Base} {h:H} {L:Nat→Option gQ} {F:κ→Option gQ} {w:World}
end
def mark (D:Nat):Deferred:={ target:=.collected D,args:=#[] }
section
variable {κ:Type} {B:Base} {h h0:H} {L:Nat→Option gQ} {Γ:Ctx} {Λ:Own} {F:κ→Option gQ} {n:Nat} {a:Act} {w:World} {l D:Nat} {r:Loop}
end
end Go.KB
namespace Go.KB
variable {P:Program}
section
variable {κ:Type} {B:Base} {h0:H} {Λ:Own} {F:κ→Option gQ} {n:Nat} {a:Act} {w:World}
end
end Go.KB
