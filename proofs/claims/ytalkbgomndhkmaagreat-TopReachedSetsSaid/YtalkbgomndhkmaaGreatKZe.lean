/- Functions that use what lies at known places: entries under keys that are slots, or no slots. Ranges over maps that are owned: whatever the order. Ranges over functions: the iterator, yield, the rounds. The rule on ranges over functions. No condition. -/
import Derived.Test.YtalkbgomndhkmaaGreatKZd
import Derived.Maps.RangeRun
import Derived.RangeFuncCalls
import Derived.RangeFuncBound
namespace Go.KB
variable {P:Program} {o:Oper} {N:List (Nat×aZ)} {α β γ:Type}
def Qb (vs:Nat→Value) (k:Nat):Value:=bif Nat.ble 5000 k then undef else vs k
def KP:List (Nat×eu)→(Nat→Option iI)→(Nat→Value)→Prop
 | [],_,_=>True
 | (k,q) :: r,E,g=>(∃ e,E k=some e∧q (g k) e)∧KP r E g
inductive Po where
 | keep
 | to (q:eu)
 | gone
def DC:List (Nat×eu)→List Po→(Nat→Option iI)→(Nat→Value)→Prop
 | (k,q0) :: r,p :: ps,E,g=>(match p with | .to q=>∃ e,E k=some e∧q (g k) e | .keep=>∃ e,E k=some e∧q0 (g k) e | .gone=>True)∧DC r ps E g
 | _,_,_,_=>True
def WL (own:Option eu) (E:Nat→Option iI) (u:Value):Prop:=match own with | some q=>∃ e,E 9999=some e∧q u e | none=>True
def lY (P:Program) (f:FuncId) (args:List aZ) (pre:List (Nat×eu)) (post:List Po) (own:Option eu) (res:aZ):Prop :=
 ∀ (κ:Type) (B:Base) (L:κ→Option iI) (h:H) (w:World) (vs:List Value) (E:Nat→Option iI),St B h (Sum.elim E L) w→args.length=vs.length→KP pre E (Qb fun k=>vs.getD k undef) →
  (∀ (j:Nat) (g:aZ) (u:Value),args[j]? = some g→vs[j]? = some u→g.p h undef u) →
  Calls P f vs.toArray w (fun e w'=>∃ u h' E',e = .returned u∧mW h h'∧St B h' (Sum.elim E' L) w'∧DC pre post E' (Qb fun k=>vs.getD k undef)∧WL own E' u∧res.p h' undef u)
def Ho (P:Program) (fn:Func) {κ:Type} (B:Base) (h0:H) (F:κ→Option iI) (vM:Nat→Value) (pre:List (Nat×eu)) (post:List Po) (own:Option eu) (res:aZ):Exit→Act→World→Prop :=
 fun e a w=>B.df=[]→Hu P fn (fun e w'=>∃ u h' E',e = .returned u∧mW h0 h'∧St B h' (Sum.elim E' F) w'∧DC pre post E' (Qb vM)∧WL own E' u∧res.p h' undef u) e a w
theorem KP.get {E:Nat→Option iI} {g:Nat→Value}:∀ {pre:List (Nat×eu)},KP pre E g→∀ {k q},Cf pre k=some q→∃ e,E k=some e∧q (g k) e:=by
 intro pre
 induction pre with
 | nil=>intro _ k q h;cases h
 | cons x r ih =>
  obtain ⟨k0,q0⟩:=x
  intro h k q hq
  simp only [Cf,TS] at hq
  cases hk:Nat.beq k0 k with
  | true=>rw [hk] at hq;cases hq;rw [iT] at hk;subst hk;exact h.1
  | false=>rw [hk] at hq;exact ih h.2 hq
def pmG (pm:List Nat) (vM:Nat→Value):List (Nat×aZ):=pm.map fun i=>(i,jZ (vM i))
theorem lkF_pm {Γ:List (Nat×aZ)} {vM:Nat→Value}:∀ {pm:List Nat} {s:Nat},Pv (pmG pm vM ++ Γ) s=jZ (vM s)∨Pv (pmG pm vM ++ Γ) s=Pv Γ s:=by
 intro pm
 induction pm with
 | nil=>intro s;exact .inr rfl
 | cons i r ih =>
  intro s
  show (bif Nat.beq i s then jZ (vM i) else Pv (pmG r vM ++ Γ) s)=_∨(bif Nat.beq i s then jZ (vM i) else Pv (pmG r vM ++ Γ) s)=_
  cases hk:Nat.beq i s with
  | true=>rw [iT] at hk;subst hk;exact .inl rfl
  | false=>exact ih
theorem KQ {vs:List Value} {m:Nat} (k:Nat):Act.gt { tmps:=vs.toArray ++ Array.replicate m undef,defers:=[] } k=vs.getD k undef:=by
  simp only [Act.gt,Array.getD_eq_getD_getElem?,List.getD_eq_getElem?_getD]
  by_cases hk:k<vs.length
  · rw [Array.getElem?_append_left (by simpa using hk)];simp
  · rw [Array.getElem?_append_right (by simp; omega)]
    simp only [Array.getElem?_replicate,List.getElem?_eq_none (Nat.le_of_not_lt hk)]
    split <;> rfl
theorem gq {n:Nat} {f:FuncId} {fn:Func} {c:Code} {args:List aZ} {pre:List (Nat×eu)} {post:List Po} {own:Option eu} {res:aZ} (pm:List Nat) (hf:P.funcs[f]? = some fn) (hb:fn.body=some c) (hn:fn.ntmps=n)
  (tN:(Nat.ble args.length n&&Nat.ble n 5000&&pF args)=true)
  (hwp:∀ (κ:Type) (B:Base) (h0:H) (F:κ→Option iI) (a:Act) (w:World) (vM:Nat→Value),At B h0 (Fa (pmG pm vM ++ Hw 0 args)) (Cf pre) F n a w→c.qf none P (Ho P fn B h0 F vM pre post own res) a w):lY P f args pre post own res:=by
 intro κ B L h w vs E hst hl hpre hargs
 simp only [Bool.and_eq_true,Nat.ble_eq] at tN
 obtain ⟨⟨hlen,hn5⟩,hdp⟩:=tN
 have Bo:=nC hdp
 refine DK rfl hf hb (hwp _ B.e h L _ w (fun k=>vs.getD k undef) ⟨h,E,mW.refl h,hst.toE,?_,?_,?_,rfl⟩) (fun _ _ ⟨v,h',x,he,hl,hs,hp⟩=>⟨v,h',x,he,hl,hs.ofE,hp⟩)
 ·intro s q hs
  obtain ⟨e,he,hq⟩:=hpre.get hs
  refine ⟨e,he,?_⟩
  rw [KQ]
  unfold Qb at hq
  cases h5:Nat.ble 5000 s with
  | false=>rw [h5] at hq;exact hq
  | true =>
   rw [h5] at hq
   rw [Nat.ble_eq] at h5
   rw [List.getD_eq_getElem?_getD,List.getElem?_eq_none (by omega)]
   exact hq
 ·intro s
  rcases lkF_pm (pm:=pm) (Γ:=Hw 0 args) (vM:=fun k=>vs.getD k undef) (s:=s) with h1 | h1
  ·show (Pv (pmG pm _ ++ Hw 0 args) s).at _ _ _
   rw [h1];exact KQ s
  ·show (Pv (pmG pm _ ++ Hw 0 args) s).at _ _ _
   rw [h1]
   rcases IJ args 0 s with h1 | ⟨j,g,h1,h2,h3⟩
   ·rw [h1];exact trivial
   ·rw [h3]
    have hj:=(List.getElem?_eq_some_iff.1 h1).1
    have hv:vs[j]? = some vs[j]:=List.getElem?_eq_getElem (by omega)
    have:=hargs j g _ h1 hv
    unfold aZ.at aZ.dv
    rw [Bo g (List.mem_of_getElem? h1),h2,Nat.zero_add,KQ,List.getD_eq_getElem?_getD,hv]
    exact this
 ·simp;omega
section
variable {κ:Type} {B:Base} {h h0:H} {L:Nat→Option iI} {Γ:Ctx} {Λ:Own} {F:κ→Option iI} {n:Nat} {a:Act} {w:World} {vM:Nat→Value} {pre:List (Nat×eu)} {post:List Po} {res:aZ}
def Gh (q:eu):Prop:=∀ v v' e,q v e→q v' e
theorem Gh.at {q:eu} {sv:Value}:Gh (iO q sv):=fun _ _ _ h=>h
def PostA (Γ:Ctx) (Λ:Own) (vM:Nat→Value):List (Nat×eu)→List Po→Prop
 | (k,q0) :: r,p :: ps=>(match p with | .to q=>Λ k=some q∧((Nat.ble 5000 k=true∧Gh q)∨(Nat.ble 5000 k=false∧Γ k=jZ (vM k))) | .keep=>Λ k=some q0∧((Nat.ble 5000 k=true∧Gh q0)∨(Nat.ble 5000 k=false∧Γ k=jZ (vM k))) | .gone=>True)∧PostA Γ Λ vM r ps
 | _,_=>True
theorem gG {x:Option eu} {b:Bool} {q:eu} {sv:Value} {X:Prop} (e:(x,b)=(some (iO q sv),true)):x=some (iO q sv)∧((b=true∧Gh (iO q sv))∨X):=⟨congrArg Prod.fst e,.inl ⟨congrArg Prod.snd e,Gh.at⟩⟩
theorem PostA.ok {E:Nat→Option iI} (sH:KO Λ L a) (oq:Sat Γ h a):∀ {pre:List (Nat×eu)} {post:List Po},PostA Γ Λ vM pre post→(∀ k q,(k,q) ∈ pre→E k=L k)→DC pre post E (Qb vM):=by
 intro pre
 induction pre with
 | nil=>intro post _ _;cases post <;> trivial
 | cons x r ih =>
  obtain ⟨k,q0⟩:=x
  intro post hp hE
  cases post with
  | nil=>trivial
  | cons p ps =>
   refine ⟨?_,ih hp.2 (fun k q hk=>hE k q (List.mem_cons_of_mem _ hk))⟩
   have key:∀ q,Λ k=some q∧((Nat.ble 5000 k=true∧Gh q)∨(Nat.ble 5000 k=false∧Γ k=jZ (vM k)))→∃ e,E k=some e∧q (Qb vM k) e:=by
    rintro q ⟨h1,h2⟩
    obtain ⟨e,hL,hq⟩:=sH k q h1
    refine ⟨e,by rw [hE k q0 (by simp)];exact hL,?_⟩
    unfold Qb
    rcases h2 with ⟨h5,hg⟩ | ⟨h5,hf⟩
    ·exact hg _ _ _ hq
    ·rw [h5,cond_false]
     have:=oq k
     rw [hf] at this
     have hv:a.gt k=vM k:=this
     rw [← hv];exact hq
   cases p with
   | gone=>trivial
   | to q=>exact key q hp.1
   | keep=>exact key q0 hp.1
def Qc (P:Program) (Γ:Ctx) (Λ:Own) (fn:Func) (res:aZ):Prop :=
 ∀ (κ:Type) (B:Base) (F:κ→Option iI) (h:H) (a:Act) (w:World),∀ L,St B h (Sum.elim L F) w→KO Λ L a→Sat Γ h a→∃ v,(results fn a.tmps).run P w = .ok v w∧res.p h undef v
theorem PV {fn:Func} (hr:fn.results = #[]):Qc P Γ Λ fn Yy:=fun _ _ _ _ a w _ _ _ _=>⟨.tuple #[],by simp [results,hr],rfl⟩
theorem kZ {fn:Func} {rv:ResultVar} {g:aZ} (hr:fn.results = #[rv]) (h1:ML P Γ Λ rv g):Qc P Γ Λ fn g:=fun _ B F h a w L hst sH oq=>by
 obtain ⟨u,hu,hp⟩:=h1 _ B F h a w L hst sH oq
 exact ⟨u,by rw [yQ];simp [hr,hu],hp⟩
theorem FT {fn:Func} {rv rv':ResultVar} {g g':aZ} (hr:fn.results = #[rv,rv']) (h1:ML P Γ Λ rv g) (h2:ML P Γ Λ rv' g'):Qc P Γ Λ fn (F6 g g'):=fun _ B F h a w L hst sH oq=>by
 obtain ⟨u,hu,hp⟩:=h1 _ B F h a w L hst sH oq
 obtain ⟨u',hu',hp'⟩:=h2 _ B F h a w L hst sH oq
 exact ⟨.tuple #[u,u'],by rw [yQ];simp [hr,hu,hu'],u,u',rfl,hp,hp'⟩
theorem nG {fn:Func} (hA:PostA Γ Λ vM pre post) (hR:Qc P Γ Λ fn res) (hAt:At B h0 Γ Λ F n a w):Ho P fn B h0 F vM pre post none res .ret a w:=by
 obtain ⟨h,L,hl,hst,sH,oq,_,hdf⟩:=hAt
 obtain ⟨u,hu,hp⟩:=hR _ B F h a w L hst sH oq
 exact fun hB=>.inl ⟨hdf.trans hB,u,hu,u,h,L,rfl,hl,hst,hA.ok sH oq (fun _ _ _=>rfl),trivial,hp⟩
theorem Wh {fn:Func} (hA:PostA Γ Λ vM pre post) (hR:Qc P Γ Λ fn res) (hAt:At B h0 Γ Λ F n a w):Ho P fn B h0 F vM pre post none res .normal a w:=nG hA hR hAt
end
def WM (C:List aZ) (h:H) (cap:List Value):Prop:=cap.length=C.length∧∀ (j:Nat) (g:aZ) (u:Value),C[j]? = some g→cap[j]? = some u→g.p h undef u
def qy (f:FuncId) (C:List aZ):aZ:=⟨none,fun h _ v=>∃ cap:List Value,v = .func (.func f) #[] cap.toArray∧WM C h cap,fun hl ⟨cap,e,h1,k⟩=>⟨cap,e,h1,fun j g u hg hu=>g.mono hl (k j g u hg hu)⟩⟩
theorem Am {f:FuncId} {C:List aZ} {xs:Array Operand} (hd:pF C=true) (ho:o.op = .makeFunc (.func f) #[] xs) (hargs:uV N C xs.toList):dK P o N [] (qy f C) [] :=
 dK.qY fun h a w _ hn=>by
  have hdp:=nC hd
  obtain ⟨hlen,hall⟩:=hargs.spec
  refine ⟨.func (.func f) #[] (xs.map a.eval),by simp [execOp,ho,Instr.makeFunc],xs.toList.map a.eval,by congr 1;apply Array.ext';simp,by rw [List.length_map];exact hlen.symm,fun j g u hg hu=>?_⟩
  rw [List.getElem?_map] at hu
  cases hx:xs.toList[j]? with
  | none=>rw [hx] at hu;cases hu
  | some x =>
   rw [hx] at hu;cases hu
   have:=hall j g x hg hx h a hn
   unfold aZ.dv at this
   rw [hdp g (List.mem_of_getElem? hg)] at this
   exact this
def Hq (P:Program) (N:List (Nat×aZ)) (o:Oper) (xs:List Operand) (f:FuncId) (C:List aZ):Prop :=
 ∀ (h:H) (a:Act) (w:World),CV N h a→∃ cap:List Value,WM C h cap∧(execOp a.eval o).run P w = .ok (.enter f (xs.map a.eval ++ cap).toArray) w
theorem dX {f:FuncId} {fn:Func} {xs:Array Operand} {ts:Array TypeId} (hf:P.funcs[f]? = some fn) (hbd:rf fn=true) (ho:o.op = .call { callee:=.value (.func f),args:=xs,argTypes:=ts }):Hq P N o xs.toList f []:=by
 intro h a w _
 simp only [rf,Bool.and_eq_true,Bool.not_eq_true'] at hbd
 have hbody:fn.body≠none:=by
  intro hx;rw [hx] at hbd;cases hbd.1
 have hname:fn.name ≠ "runtime.NumGoroutine":=by simpa using hbd.2
 refine ⟨[],⟨rfl,fun j g u hg=>by simp at hg⟩,?_⟩
 have e:(xs.toList.map a.eval ++ []).toArray=xs.map a.eval:=by apply Array.ext';simp
 rw [e]
 simp [execOp,ho,resolve,Act.eval,Deferred.ofValue,invoke,callFunc,hf,hname,hbody]
theorem uT {f:FuncId} {fn:Func} {C:List aZ} {z:Operand} {xs:Array Operand} {ts:Array TypeId} (hf:P.funcs[f]? = some fn) (hbd:rf fn=true) (ho:o.op = .call { callee:=.value z,args:=xs,argTypes:=ts }) (hz:bQ N z (qy f C)):Hq P N o xs.toList f C:=by
 intro h a w hn
 simp only [rf,Bool.and_eq_true,Bool.not_eq_true'] at hbd
 have hbody:fn.body≠none:=by
  intro hx;rw [hx] at hbd;cases hbd.1
 have hname:fn.name ≠ "runtime.NumGoroutine":=by simpa using hbd.2
 obtain ⟨cap,hv,hc⟩:=hz h a hn
 refine ⟨cap,hc,?_⟩
 have e:(xs.toList.map a.eval ++ cap).toArray=xs.map a.eval ++ cap.toArray:=by apply Array.ext';simp
 rw [e]
 simp [execOp,ho,resolve,hv,Deferred.ofValue,invoke,callFunc,hf,hname,hbody]
def toC:List (Nat×eu)→List Nat→Nat→Option Nat
 | (k,_) :: r,g :: gs,x=>bif Nat.beq k x then some g else toC r gs x
 | _,_,_=>none
def AX:List (Nat×eu)→List Nat→Nat→Option Nat
 | (k,_) :: r,g :: gs,x=>bif Nat.beq g x then some k else AX r gs x
 | _,_,_=>none
def hasK:List (Nat×eu)→Nat→Bool
 | [],_=>false
 | (k,_) :: r,x=>Nat.beq k x||hasK r x
def CU:List (Nat×eu)→List Nat→Bool
 | (k,_) :: r,g :: gs=>!(has gs g) && !(hasK r k) && !(Nat.beq k 9999)&&CU r gs
 | [],[]=>true
 | _,_=>false
theorem TV:∀ {pre:List (Nat×eu)} {gs:List Nat} {k g:Nat},toC pre gs k=some g→has gs g=true∧hasK pre k=true:=by
 intro pre
 induction pre with
 | nil=>intro gs k g h;cases gs <;> cases h
 | cons x r ih =>
  obtain ⟨k0,q⟩:=x
  intro gs k g h
  cases gs with
  | nil=>cases h
  | cons g0 gs =>
   simp only [toC] at h
   cases hk:Nat.beq k0 k with
   | true=>rw [hk] at h;cases h;simp [has,hasK,hk,Nat.beq_refl]
   | false=>rw [hk] at h;have:=ih h;simp [has,hasK,this.1,this.2]
theorem Ov:∀ {pre:List (Nat×eu)} {gs:List Nat} {k g:Nat},AX pre gs g=some k→has gs g=true∧hasK pre k=true:=by
 intro pre
 induction pre with
 | nil=>intro gs k g h;cases gs <;> cases h
 | cons x r ih =>
  obtain ⟨k0,q⟩:=x
  intro gs k g h
  cases gs with
  | nil=>cases h
  | cons g0 gs =>
   simp only [AX] at h
   cases hk:Nat.beq g0 g with
   | true=>rw [hk] at h;cases h;simp [has,hasK,hk,Nat.beq_refl]
   | false=>rw [hk] at h;have:=ih h;simp [has,hasK,this.1,this.2]
theorem WN:∀ {pre:List (Nat×eu)} {gs:List Nat} {k g:Nat},CU pre gs=true→toC pre gs k=some g→AX pre gs g=some k:=by
 intro pre
 induction pre with
 | nil=>intro gs k g _ h;cases gs <;> cases h
 | cons x r ih =>
  obtain ⟨k0,q⟩:=x
  intro gs k g hc h
  cases gs with
  | nil=>cases h
  | cons g0 gs =>
   simp only [CU,Bool.and_eq_true,Bool.not_eq_true'] at hc
   simp only [toC] at h
   simp only [AX]
   cases hk:Nat.beq k0 k with
   | true=>rw [hk] at h;cases h;rw [iT] at hk;rw [hk,Nat.beq_refl];rfl
   | false =>
    rw [hk] at h
    have h1:=TV h
    have h2:Nat.beq g0 g=false:=by
     rw [Bool.eq_false_iff,Ne,iT];intro e;subst e;rw [h1.1] at hc;exact absurd hc.1.1.1 (by simp)
    rw [h2];exact ih hc.2 h
theorem Ox:∀ {pre:List (Nat×eu)} {gs:List Nat} {k g:Nat},CU pre gs=true→AX pre gs g=some k→toC pre gs k=some g:=by
 intro pre
 induction pre with
 | nil=>intro gs k g _ h;cases gs <;> cases h
 | cons x r ih =>
  obtain ⟨k0,q⟩:=x
  intro gs k g hc h
  cases gs with
  | nil=>cases h
  | cons g0 gs =>
   simp only [CU,Bool.and_eq_true,Bool.not_eq_true'] at hc
   simp only [AX] at h
   simp only [toC]
   cases hk:Nat.beq g0 g with
   | true=>rw [hk] at h;cases h;rw [iT] at hk;rw [hk,Nat.beq_refl];rfl
   | false =>
    rw [hk] at h
    have h1:=Ov h
    have h2:Nat.beq k0 k=false:=by
     rw [Bool.eq_false_iff,Ne,iT];intro e;subst e;rw [h1.2] at hc;exact absurd hc.1.1.2 (by simp)
    rw [h2];exact ih hc.2 h
theorem UN:∀ {pre:List (Nat×eu)} {gs:List Nat},CU pre gs=true→hasK pre 9999=false:=by
 intro pre
 induction pre with
 | nil=>intro gs _;rfl
 | cons x r ih =>
  obtain ⟨k0,q⟩:=x
  intro gs hc
  cases gs with
  | nil=>cases hc
  | cons g0 gs =>
   simp only [CU,Bool.and_eq_true,Bool.not_eq_true'] at hc
   simp only [hasK,hc.1.2,ih hc.2,Bool.or_self]
def Qa:List (Nat×eu)→List Nat→List (Nat×eu)
 | (_,q) :: r,g :: gs=>(g,q) :: Qa r gs
 | _,_=>[]
def FP:List Nat→List Po→GK
 | g :: gs,.to q :: ps=>(g,some q) :: FP gs ps
 | g :: gs,.gone :: ps=>(g,none) :: FP gs ps
 | _ :: gs,.keep :: ps=>FP gs ps
 | _,_=>[]
def Ot (own:Option eu) (d:Option Nat):GK:=match own,d with | some q,some d=>[(d,some q)] | _,_=>[]
def sZ (N:List (Nat×aZ)) (xs:List Operand):List (Nat×eu)→List Po→List Nat→Prop
 | (k,q) :: r,p :: ps,g :: gs=>((Nat.ble 5000 k=true∧Gh q∧(∀ q',p = .to q'→Gh q'))∨(Nat.ble 5000 k=false∧∃ x,xs[k]? = some x∧bQ N x (RQ g)))∧sZ N xs r ps gs
 | [],[],[]=>True
 | _,_,_=>False
theorem sZ.gh {xs:List Operand} {k g:Nat} {q:eu} {p:Po} {r ps gs} (h5:Nat.ble 5000 k=true) (h1:Gh q) (h2:∀ q',p = .to q'→Gh q') (h:sZ N xs r ps gs):sZ N xs ((k,q) :: r) (p :: ps) (g :: gs):=⟨.inl ⟨h5,h1,h2⟩,h⟩
def Po.nt:Po→Bool
 | .to _=>false
 | _=>true
theorem sZ.gk {xs:List Operand} {k g:Nat} {q:eu} {sv:Value} {p:Po} {r ps gs} (e:(Nat.ble 5000 k,p.nt)=(true,true)) (h:sZ N xs r ps gs):sZ N xs ((k,iO q sv) :: r) (p :: ps) (g :: gs):=.gh (congrArg Prod.fst e) Gh.at (fun q' h2=>by have:=congrArg Prod.snd e;rw [h2] at this;cases this) h
theorem sZ.slot {xs:List Operand} {k g:Nat} {q:eu} {p:Po} {x:Operand} {r ps gs} (h5:Nat.ble 5000 k=false) (h1:xs[k]? = some x) (h2:bQ N x (RQ g)) (h:sZ N xs r ps gs):sZ N xs ((k,q) :: r) (p :: ps) (g :: gs):=⟨.inr ⟨h5,x,h1,h2⟩,h⟩
theorem DL:∀ {gs:List Nat} {post:List Po} {s:Nat},has gs s=false→qL (FP gs post) s=none:=by
 intro gs
 induction gs with
 | nil=>intro post s _;cases post <;> rfl
 | cons g gs ih =>
  intro post s h
  cases post with
  | nil=>rfl
  | cons p ps =>
   simp only [has,Bool.or_eq_false_iff] at h
   cases p <;> simp only [FP,qL,h.1,cond_false] <;> exact ih h.2
theorem has_of:∀ {pre:List (Nat×eu)} {gs:List Nat} {s:Nat},CU pre gs=true→AX pre gs s=none→has gs s=false:=by
 intro pre
 induction pre with
 | nil=>intro gs s hc h;cases gs with
  | nil=>rfl
  | cons _ _=>cases hc
 | cons x r ih =>
  obtain ⟨k0,q⟩:=x
  intro gs s hc h
  cases gs with
  | nil=>rfl
  | cons g gs =>
   simp only [CU,Bool.and_eq_true,Bool.not_eq_true'] at hc
   simp only [AX] at h
   cases hb:Nat.beq g s with
   | true=>rw [hb] at h;cases h
   | false=>rw [hb] at h;simp only [has,hb,Bool.false_or];exact ih hc.2 h
section
variable {L:Nat→Option iI} {h:H} {a:Act} {xs:List Operand} {cap:List Value}
theorem WO {E:Nat→Option iI} (hn:CV N h a):∀ {pre:List (Nat×eu)} {post:List Po} {gs:List Nat},sZ N xs pre post gs→RS (Qa pre gs) L a→(∀ k g,toC pre gs k=some g→E k=L g)→CU pre gs=true→KP pre E (Qb fun k=>(xs.map a.eval ++ cap).getD k undef):=by
 intro pre
 induction pre with
 | nil=>intro post gs _ _ _ _;trivial
 | cons x r ih =>
  obtain ⟨k,q⟩:=x
  intro post gs hk hK hE hc
  cases post with
  | nil=>cases gs <;> exact hk.elim
  | cons p ps=>cases gs with
   | nil=>exact hk.elim
   | cons g gs =>
    obtain ⟨h1,h2⟩:=hk
    obtain ⟨⟨e,hL,hq⟩,hK⟩:=hK
    have hc0:=hc
    simp only [CU,Bool.and_eq_true,Bool.not_eq_true'] at hc
    refine ⟨⟨e,by rw [hE k g (by simp [toC,Nat.beq_refl])];exact hL,?_⟩,ih h2 hK (fun k' g' hk'=>hE k' g' ?_) hc.2⟩
    ·unfold Qb
     rcases h1 with ⟨h5,hg,_⟩ | ⟨h5,y,hy,hyx⟩
     ·exact hg _ _ _ hq
     ·rw [h5,cond_false]
      have hv:a.eval y=a.gt g:=hyx h a hn
      have:(xs.map a.eval ++ cap).getD k undef=a.eval y:=by
       have hlt:=(List.getElem?_eq_some_iff.1 hy).1
       rw [List.getD_eq_getElem?_getD,List.getElem?_append_left (by simpa using hlt),List.getElem?_map,hy];rfl
      show q ((xs.map a.eval ++ cap).getD k undef) e
      rw [this,hv];exact hq
    ·have h3:=TV hk'
     have:Nat.beq k k'=false:=by
      rw [Bool.eq_false_iff,Ne,iT];intro e;subst e;rw [h3.2] at hc;exact absurd hc.1.1.2 (by simp)
     simp only [toC,this,cond_false];exact hk'
theorem upd_of {E:Nat→Option iI} {L':Nat→Option iI} {a':Act} (hn:CV N h a) {s:Nat} (ha:a'.gt s=a.gt s):∀ {pre:List (Nat×eu)} {post:List Po} {gs:List Nat},sZ N xs pre post gs→DC pre post E (Qb fun k=>(xs.map a.eval ++ cap).getD k undef) →
  CU pre gs=true→∀ k,AX pre gs s=some k→L' s=E k →
  (∃ q,qL (FP gs post) s=some (some q)∧∃ e,L' s=some e∧q (a'.gt s) e)∨qL (FP gs post) s=some none∨(qL (FP gs post) s=none∧∃ q,(s,q) ∈ Qa pre gs∧∃ e,L' s=some e∧q (a'.gt s) e):=by
 intro pre
 induction pre with
 | nil=>intro post gs _ _ _ k hk;cases gs <;> cases hk
 | cons x r ih =>
  obtain ⟨k0,q⟩:=x
  intro post gs hk hp hc k hof hL
  cases post with
  | nil=>cases gs <;> exact hk.elim
  | cons p ps=>cases gs with
   | nil=>exact hk.elim
   | cons g gs =>
    obtain ⟨h1,h2⟩:=hk
    simp only [CU,Bool.and_eq_true,Bool.not_eq_true'] at hc
    simp only [AX] at hof
    cases hb:Nat.beq g s with
    | false =>
     rw [hb] at hof
     have hlk:qL (FP (g :: gs) (p :: ps)) s=qL (FP gs ps) s:=by
      cases p <;> simp [FP,qL,hb]
     rw [hlk]
     rcases ih h2 hp.2 hc.2 k hof hL with h | h | ⟨h3,q',h4,h5⟩
     ·exact .inl h
     ·exact .inr (.inl h)
     ·exact .inr (.inr ⟨h3,q',List.mem_cons_of_mem _ h4,h5⟩)
    | true =>
     rw [hb] at hof;cases hof
     rw [iT] at hb;subst hb
     have key:∀ q':eu,(Nat.ble 5000 k0=true→Gh q')→(∃ e,E k0=some e∧q' (Qb (fun k=>(xs.map a.eval ++ cap).getD k undef) k0) e)→∃ e,L' g=some e∧q' (a'.gt g) e:=by
      rintro q' hgh ⟨e,he,hq⟩
      refine ⟨e,by rw [hL];exact he,?_⟩
      unfold Qb at hq
      rcases h1 with ⟨h5,_,_⟩ | ⟨h5,y,hy,hyx⟩
      ·exact hgh h5 _ _ _ hq
      ·rw [h5,cond_false] at hq
       have hv:a.eval y=a.gt g:=hyx h a hn
       have:(xs.map a.eval ++ cap).getD k0 undef=a.eval y:=by
        have hlt:=(List.getElem?_eq_some_iff.1 hy).1
        rw [List.getD_eq_getElem?_getD,List.getElem?_append_left (by simpa using hlt),List.getElem?_map,hy];rfl
       have hq:q' ((xs.map a.eval ++ cap).getD k0 undef) e:=hq
       rw [this,hv] at hq
       rw [ha];exact hq
     cases p with
     | gone=>exact .inr (.inl (by simp [FP,qL,Nat.beq_refl]))
     | to q' =>
      refine .inl ⟨q',by simp [FP,qL,Nat.beq_refl],key q' (fun h5=>?_) hp.1⟩
      rcases h1 with ⟨_,_,hg⟩ | ⟨h6,_⟩
      ·exact hg q' rfl
      ·rw [h6] at h5;cases h5
     | keep =>
      refine .inr (.inr ⟨(by simp only [FP];exact DL hc.1.1.1),q,List.mem_cons_self,key q (fun h5=>?_) hp.1⟩)
      rcases h1 with ⟨_,hg,_⟩ | ⟨h6,_⟩
      ·exact hg
      ·rw [h6] at h5;cases h5
end
theorem KR {U V:GK} {s:Nat}:qL (U ++ V) s=(match qL U s with | some e=>some e | none=>qL V s):=by
 induction U with
 | nil=>rfl
 | cons x r ih =>
  obtain ⟨k,e⟩:=x
  simp only [List.cons_append,qL]
  cases Nat.beq k s with
  | true=>rfl
  | false=>exact ih
theorem fK {f:FuncId} {args C:List aZ} {pre:List (Nat×eu)} {post:List Po} {own:Option eu} {res:aZ} {xs:List Operand} {gs:List Nat} {K:List (Nat×eu)} {U:GK}
    (hc:lY P f (args ++ C) pre post own res) (hE:Hq P N o xs f C) (hd:pF (res :: args)=true) (tN:(CU pre gs && !(match o.dst with | some d=>has gs d | none=>false))=true)
    (hargs:uV N args xs) (hkey:sZ N xs pre post gs) (hK:Qa pre gs=K) (hU:FP gs post ++ Ot own o.dst=U):dK P o N K res U:=by
  subst hK;subst hU
  intro κ B F L h a w hst hn hk hdn next Q _ hnext
  simp only [Bool.and_eq_true,Bool.not_eq_true'] at tN
  obtain ⟨hcc,hdg⟩:=tN
  obtain ⟨cap,hcap,hrun⟩:=hE h a w hn
  have hdp:=nC hd
  obtain ⟨hlen,hall⟩:=hargs.spec
  have hal:=hargs.spec.1
  unfold Oper.qf
  rw [hrun,CW]
  have hst1:St B h (Sum.elim (fun k=>(toC pre gs k).bind L) (Sum.elim (fun s=>if (AX pre gs s).isSome then none else L s) F)) w:=by
    refine hst.BK (fun k=>match k with | .inl k=>.inl ((toC pre gs k).getD 0) | .inr (.inl s)=>.inl s | .inr (.inr x)=>.inr x) ?_ ?_
    · intro k e he
      cases k with
      | inl k =>
        simp only [Sum.elim_inl] at he
        cases ht:toC pre gs k with
        | none=>rw [ht] at he;cases he
        | some g=>rw [ht] at he;simpa [ht] using he
      | inr k=>cases k with
        | inl s =>
          simp only [Sum.elim_inr,Sum.elim_inl] at he
          split at he
          · cases he
          · exact he
        | inr x=>exact he
    · intro k k' e e' hk1 hk2 hne
      have key:∀ k e,(toC pre gs k).bind L=some e→∃ g,toC pre gs k=some g∧AX pre gs g=some k:=by
        intro k e he
        cases ht:toC pre gs k with
        | none=>rw [ht] at he;cases he
        | some g=>exact ⟨g,rfl,WN hcc ht⟩
      have keyS:∀ s e,(if (AX pre gs s).isSome then none else L s)=some e→AX pre gs s=none:=by
        intro s e he
        split at he
        · cases he
        · rename_i hh;simpa using hh
      cases k with
      | inl k =>
        obtain ⟨g,hg,hg'⟩:=key k e hk1
        cases k' with
        | inl k' =>
          obtain ⟨g2,hg2,RU⟩:=key k' e' hk2
          intro he
          simp only [hg,hg2,Option.getD_some] at he
          have:=Sum.inl.inj he
          rw [this,RU] at hg';cases hg';exact hne rfl
        | inr k'=>cases k' with
          | inl s =>
            intro he
            simp only [hg,Option.getD_some] at he
            have:=Sum.inl.inj he
            have h2:=keyS s e' hk2
            rw [← this,hg'] at h2;cases h2
          | inr x=>intro he;cases he
      | inr k=>cases k with
        | inl s =>
          have h2:=keyS s e hk1
          cases k' with
          | inl k' =>
            obtain ⟨g2,hg2,RU⟩:=key k' e' hk2
            intro he
            simp only [hg2,Option.getD_some] at he
            have:=Sum.inl.inj he
            rw [this,RU] at h2;cases h2
          | inr k'=>cases k' with
            | inl s'=>intro he;exact hne (by rw [Sum.inl.inj he])
            | inr x=>intro he;cases he
        | inr x=>cases k' with
          | inl k'=>intro he;cases he
          | inr k'=>cases k' with
            | inl s'=>intro he;cases he
            | inr x'=>intro he;exact hne (by rw [Sum.inr.inj he])
  refine (hc _ B _ h w (xs.map a.eval ++ cap) _ hst1 (by rw [List.length_append,List.length_append,List.length_map,hal,hcap.1]) (WO hn hkey hk (fun k g hg=>by rw [hg];rfl) hcc) ?_).mono ?_
  · intro j g u hg hu
    by_cases hj:j<args.length
    · rw [List.getElem?_append_left hj] at hg
      rw [List.getElem?_append_left (by rw [List.length_map];omega),List.getElem?_map] at hu
      cases hx:xs[j]? with
      | none=>rw [hx] at hu;cases hu
      | some x =>
        rw [hx] at hu;cases hu
        have:=hall j g x hg hx h a hn
        unfold aZ.dv at this
        rw [hdp g (List.mem_cons_of_mem _ (List.mem_of_getElem? hg))] at this
        exact this
    · rw [List.getElem?_append_right (by omega)] at hg
      rw [List.getElem?_append_right (by rw [List.length_map];omega),List.length_map,← hal] at hu
      exact hcap.2 _ g u hg hu
  · rintro e w' ⟨v,h',E',rfl,hl,hst',hpost,hown,hp⟩
    refine hnext v h' w' (fun s=>if o.dst=some s then (if own.isSome then E' 9999 else none) else match AX pre gs s with | some k=>E' k | none=>L s) hl ?_ ?_ ?_
    · unfold aZ.dv
      rw [hdp res List.mem_cons_self]
      exact hp
    · refine hst'.BK (fun k => match k with | .inl s => (if o.dst = some s then .inl 9999 else match AX pre gs s with | some k => .inl k | none => .inr (.inl s)) | .inr x => .inr (.inr x)) ?_ ?_
      · intro k e he
        cases k with
        | inr x=>exact he
        | inl s =>
          simp only [Sum.elim_inl] at he
          simp only []
          split at he
          · rename_i h1
            rw [if_pos h1]
            split at he
            · exact he
            · cases he
          · rename_i h1
            rw [if_neg h1]
            cases ho:AX pre gs s with
            | some k=>rw [ho] at he;exact he
            | none=>rw [ho] at he;simpa [ho] using he
      · intro k k' e e' hk1 hk2 hne
        have k9:∀ s,AX pre gs s≠some 9999:=by
          intro s he
          have:=(Ov he).2
          rw [UN hcc] at this;cases this
        cases k with
        | inr x=>cases k' with
          | inr x'=>intro he;exact hne (by rw [Sum.inr.inj (Sum.inr.inj he)])
          | inl s =>
            intro he
            simp only [] at he
            split at he
            · cases he
            · cases ho:AX pre gs s <;> rw [ho] at he <;> cases he
        | inl s=>cases k' with
          | inr x =>
            intro he
            simp only [] at he
            split at he
            · cases he
            · cases ho:AX pre gs s <;> rw [ho] at he <;> cases he
          | inl s' =>
            have hss:s≠s':=fun x=>hne (by rw [x])
            intro he
            simp only [] at he
            by_cases h1:o.dst=some s
            · by_cases h2 : o.dst = some s'
              · rw [h1] at h2;exact hss (Option.some.inj h2)
              · rw [if_pos h1,if_neg h2] at he
                cases ho:AX pre gs s' with
                | none=>rw [ho] at he;cases he
                | some k=>rw [ho] at he;exact k9 s' (by rw [ho];exact congrArg some (Sum.inl.inj he).symm)
            · by_cases h2 : o.dst = some s'
              · rw [if_neg h1,if_pos h2] at he
                cases ho:AX pre gs s with
                | none=>rw [ho] at he;cases he
                | some k=>rw [ho] at he;exact k9 s (by rw [ho];exact congrArg some (Sum.inl.inj he))
              · rw [if_neg h1,if_neg h2] at he
                cases ho:AX pre gs s with
                | none=>cases ho':AX pre gs s' with
                  | none=>rw [ho,ho'] at he;exact hss (Sum.inl.inj (Sum.inr.inj he))
                  | some k'=>rw [ho,ho'] at he;cases he
                | some k=>cases ho':AX pre gs s' with
                  | none=>rw [ho,ho'] at he;cases he
                  | some k' =>
                    rw [ho,ho'] at he
                    have:=Sum.inl.inj he
                    subst this
                    have h1:=Ox hcc ho
                    have h2:=Ox hcc ho'
                    rw [h1] at h2;exact hss (Option.some.inj h2)
    · intro s
      unfold full
      rw [KR,KR]
      by_cases hds:o.dst=some s
      · have hg : has gs s = false := by rw [hds] at hdg; exact hdg
        rw [DL hg]
        simp only []
        cases own with
        | none =>
          simp [Ot,qL,hds,Nat.beq_refl]
        | some q =>
          obtain ⟨e,he,hq⟩:=hown
          simp only [Ot,hds,qL,Nat.beq_refl,cond_true,if_pos,Option.isSome_some]
          exact ⟨e,he,by rw [iq (hdn s hds)];exact hq⟩
      · have ha:(a.put o.dst v).gt s=a.gt s:=xE hds
        have hrest:∀ e,qL (Ot own o.dst) s=some e→False:=by
          intro e he
          cases own with
          | none=>cases he
          | some q=>cases hd':o.dst with
            | none=>rw [hd'] at he;cases he
            | some d =>
              rw [hd'] at he
              simp only [Ot,qL] at he
              cases hb:Nat.beq d s with
              | true=>rw [iT] at hb;subst hb;exact hds hd'
              | false=>rw [hb] at he;cases he
        cases hof:AX pre gs s with
        | some k =>
          have hfin:∀ e,qL (Ot own o.dst) s=some e→False:=hrest
          have h0:qL (full [] o.dst) s=none:=by
            unfold full
            cases hd':o.dst with
            | none=>rfl
            | some d =>
              simp only [List.nil_append,qL]
              cases hb:Nat.beq d s with
              | true=>rw [iT] at hb;subst hb;exact absurd hd' hds
              | false=>rfl
          unfold full at h0
          rw [List.nil_append] at h0
          rcases upd_of (E:=E') (L':=fun s=>if o.dst=some s then (if own.isSome then E' 9999 else none) else match AX pre gs s with | some k=>E' k | none=>L s) hn ha hkey hpost hcc k hof (by simp only [if_neg hds,hof]) with ⟨q,h1,h2⟩ | h1 | ⟨h1,h2⟩
          · rw [h1];exact h2
          · rw [h1];trivial
          · rw [h1]
            simp only []
            cases hr:qL (Ot own o.dst) s with
            | some e=>exact (hfin e hr).elim
            | none =>
              simp only []
              rw [h0]
              exact .inr h2
        | none =>
          rw [DL (has_of hcc hof)]
          simp only []
          cases hr:qL (Ot own o.dst) s with
          | some e=>exact (hrest e hr).elim
          | none =>
            simp only []
            have:qL (full [] o.dst) s=none:=by
              unfold full
              cases hd':o.dst with
              | none=>rfl
              | some d =>
                simp only [List.nil_append,qL]
                cases hb:Nat.beq d s with
                | true=>rw [iT] at hb;subst hb;exact absurd hd' hds
                | false=>rfl
            unfold full at this
            rw [List.nil_append] at this
            rw [this]
            exact .inl (by simp only [if_neg hds,hof])
end Go.KB
namespace Go.KB
variable {P:Program} {o:Oper} {N:List (Nat×aZ)} {α β:Type}
def IK {S κ:Type} (f:S→κ→Option S):List κ→S→Option S
 | [],s=>some s
 | x :: r,s=>(f s x).bind (IK f r)
open Classical in
noncomputable def Gp {κ R:Type} (l:List κ) (F:List κ→Option R):Option R :=
 if h:∃ r,∀ π,π.Perm l→F π=some r then some h.choose else none
theorem Jo {κ R:Type} {l:List κ} {F:List κ→Option R} {r:R} (h:Gp l F=some r):∀ π,π.Perm l→F π=some r:=by
 unfold Gp at h
 split at h
 ·rename_i hx;cases h;exact hx.choose_spec
 ·cases h
theorem UO {κ R:Type} {l:List κ} {F:List κ→Option R} {r:R} (h:∀ π,π.Perm l→F π=some r):Gp l F=some r:=by
 unfold Gp
 have hx:∃ r,∀ π,π.Perm l→F π=some r:=⟨r,h⟩
 rw [dif_pos hx]
 have h1:=hx.choose_spec l (List.Perm.refl l)
 rw [h l (List.Perm.refl l)] at h1
 exact h1.symm
theorem Ky {S κ R:Type} {f:S→κ→Option S} {K:S→Option R} {s:S} {rem r1 r2:List κ} {p:κ} {r:R} (H:∀ π,π.Perm rem→(IK f π s).bind K=some r) (he:rem=r1 ++ p :: r2) :
  ∃ s',f s p=some s'∧∀ π,π.Perm (r1 ++ r2)→(IK f π s').bind K=some r:=by
 have key:∀ π,π.Perm (r1 ++ r2)→(((f s p).bind (IK f π)).bind K=some r):=fun π hp =>
  H (p :: π) (by rw [he];exact (List.Perm.cons p hp).trans List.perm_middle.symm)
 cases hs:f s p with
 | none=>have:=key _ (List.Perm.refl _);rw [hs] at this;cases this
 | some s'=>exact ⟨s',rfl,fun π hp=>by have:=key π hp;rwa [hs] at this⟩
def CX (bm bi:Nat) (f:α→Value) (rv:Rep β) (l rem:List (α×β)) (cur:Option (α×β)):iI where
 claims:=[(bm,0),(bi,0)]
 ok:=fun h m=>∃ es clock seen,m bm=some (.map es clock)∧m bi=some (.mapIter (some bm) clock seen clock)∧bm≠bi∧yS f rv h es.toList l∧wV es.toList clock∧yS f rv h (leftOf es seen).toList rem ∧
  ∀ p,cur=some p→∃ (e:MapEntry) (seen':Array Nat),seen=seen'.push e.born∧e ∈ es.toList∧e.key=f p.1∧rv.val h e.val p.2
 mono:=by
  rintro h h' m hl ⟨es,c,s,h1,h2,h3,h4,h5,h6,h7⟩
  exact ⟨es,c,s,h1,h2,h3,h4.mono hl,h5,h6.mono hl,fun p hp=>let ⟨e,s',a,b,c,d⟩:=h7 p hp;⟨e,s',a,b,c,rv.KT hl d⟩⟩
 frame:=fun hm ⟨es,c,s,h1,h2,h3⟩=>⟨es,c,s,by rw [hm (bm,0) (by simp)];exact h1,by rw [hm (bi,0) (by simp)];exact h2,h3⟩
def Np (sm:Value) (f:α→Value) (rv:Rep β) (l rem:List (α×β)) (cur:Option (α×β)):eu:=fun v e=>∃ bm bi,sm = .map (some bm)∧v = .pointer (some ⟨bi,0,none⟩)∧e=CX bm bi f rv l rem cur
theorem RV (es:Array MapEntry):leftOf es #[]=es:=by
 unfold leftOf
 exact Array.filter_eq_self.2 (fun x _=>by simp)
theorem yS.split {f:α→Value} {rv:Rep β} {h:H}:∀ {es:List MapEntry} {l:List (α×β)} {e:MapEntry},yS f rv h es l→e ∈ es→∃ e1 e2 r1 p r2,es=e1 ++ e :: e2∧l=r1 ++ p :: r2∧e.key=f p.1∧rv.val h e.val p.2∧yS f rv h (e1 ++ e2) (r1 ++ r2)
 | [],_,_,_,he=>by cases he
 | x :: es,[],_,hr,_=>hr.elim
 | x :: es,p :: l,e,⟨hx,hr⟩,he=>by
  rcases List.mem_cons.1 he with rfl | he
  ·exact ⟨[],es,[],p,l,rfl,rfl,hx.1,hx.2,hr⟩
  ·obtain ⟨e1,e2,r1,p',r2,h1,h2,h3,h4,h5⟩:=yS.split hr he
   exact ⟨x :: e1,e2,p :: r1,p',r2,by rw [h1];rfl,by rw [h2];rfl,h3,h4,hx,h5⟩
theorem UQ {es:Array MapEntry} {seen:Array Nat} {e:MapEntry} {e1 e2:List MapEntry} (hn:(es.toList.map (·.born)).Nodup) (hl:(leftOf es seen).toList=e1 ++ e :: e2):(leftOf es (seen.push e.born)).toList=e1 ++ e2:=by
 have hnl:((leftOf es seen).toList.map (·.born)).Nodup:=by
  unfold leftOf
  rw [Array.toList_filter]
  exact (List.Sublist.map _ List.filter_sublist).nodup hn
 have h1:(leftOf es (seen.push e.born)).toList=(leftOf es seen).toList.filter (fun x=>!(x.born == e.born)):=by
  unfold leftOf
  rw [Array.toList_filter,Array.toList_filter,List.filter_filter]
  congr 1
  funext x
  rw [Array.contains_push,Bool.not_or,Bool.and_comm]
 rw [hl] at hnl
 rw [h1,hl,List.filter_append,List.filter_cons]
 have hne:∀ x,x ∈ e1∨x ∈ e2→x.born≠e.born:=by
  intro x hx heq
  rw [List.map_append,List.map_cons,List.nodup_append] at hnl
  obtain ⟨_,h3,h4⟩:=hnl
  rcases hx with hx | hx
  ·exact h4 x.born (List.mem_map.2 ⟨x,hx,rfl⟩) e.born (by simp) heq
  ·exact (List.nodup_cons.1 h3).1 (List.mem_map.2 ⟨x,hx,heq⟩)
 have f1:e1.filter (fun x=>!(x.born == e.born))=e1:=List.filter_eq_self.2 (fun x hx=>by simpa using hne x (.inl hx))
 have f2:e2.filter (fun x=>!(x.born == e.born))=e2:=List.filter_eq_self.2 (fun x hx=>by simpa using hne x (.inr hx))
 rw [f1,f2]
 simp
theorem PN {T K E:TypeId} {f:α→Value} {rv:Rep β} {g d:Nat} {sm:Value} {x:Operand} {l:List (α×β)} (hT:P.underlying T=some (.map K E)) (hgd:Nat.beq g d=false) (hd:o.dst=some d) (ho:o.op = .range T x) (hx:bQ N x (jZ sm)) :
    dK P o N [(g,iO (dL f rv l) sm)] aZ.qH [(g,none),(d,some (Np sm f rv l l none))]:=by
  intro κ B F L h a w hst hn hk hdn next Q hnext _
  obtain ⟨e,hL,b,hv,rfl⟩:=hk.1
  have hL:L g=some (rD b f rv l):=hL
  have hx':a.eval x = .map (some b):=(hx h a hn:a.eval x=sm).trans hv
  have hne:g≠d:=fun x=>by rw [iT.2 x] at hgd;cases hgd
  obtain ⟨es,clock,hb,hr,hB⟩:=Oy hst hL
  unfold Oper.qf
  have:(execOp a.eval o).run P w = .ok (.value (.pointer (some ⟨w.heap.size,0,none⟩))) (w.alloc (.mapIter (some b) clock #[] clock)):=by
    simp only [execOp,ho,hx',Sem.run_bind,run_range_map w T K E b es clock hT hb,Result.andThen_ok,Sem.run_pure]
  rw [this]
  obtain ⟨hcl,_⟩:=hst.own (k:=Sum.inl g) hL
  have hlt:=(hcl (b,0) (by simp [rD])).2.1
  have hno:=(hcl (b,0) (by simp [rD])).2.2
  have hm:=hst.mv g d
  have hmd:mv L g d d=some (rD b f rv l):=by simp [mv,hL]
  refine hnext _ h _ (set1 (mv L g d) d (CX b w.heap.size f rv l l none)) (mW.refl h) trivial ?_ ?_
  · refine hm.step (Sum.inl d) (fun i => i = w.heap.size) (fun i hi hlt' => absurd hlt' (by omega)) (by simp) rfl rfl rfl (fun i hi _ => Ad w _ hi) (mW.refl h) (fun _ _ _ _ => rfl) ?_ rW ?_
    · rintro i o' u (rfl | hi) hu
      · rw [hst.fresh (Nat.le_refl _)] at hu;cases hu
      · rw [hst.fresh hi] at hu;cases hu
    · intro e' he
      rw [rX he]
      refine ⟨fun c hc=>?_,es,clock,#[],?_,heap_alloc_new w _,by omega,hr,hB,by rw [RV];exact hr,fun p hp=>by cases hp⟩
      · simp only [CX,List.mem_cons,List.not_mem_nil,or_false] at hc
        rcases hc with rfl | rfl
        · exact ⟨.inr ⟨_,hmd,(b,0),by simp [rD],rfl⟩,by simp;omega,fun o' _=>hno o' (Nat.zero_le _)⟩
        · exact ⟨.inl (Nat.le_refl _),by simp,fun o' _=>hst.fresh (Nat.le_refl _) o'⟩
      · exact (Ad w _ hlt).trans hb
  · rw [hd]
    intro k
    by_cases hkd:k=d
    · subst hkd
      have h1:qL (full [(g,none),(k,some (Np sm f rv l l none))] (some k)) k=some (some (Np sm f rv l l none)):=by
        simp [full,qL,hgd,Nat.beq_refl]
      rw [h1]
      exact ⟨_,qG,b,w.heap.size,hv,by rw [iq (hdn k hd)],rfl⟩
    · by_cases hkg : k = g
      · subst hkg
        have h1:qL (full [(k,none),(d,some (Np sm f rv l l none))] (some d)) k=some none:=by simp [full,qL,Nat.beq_refl]
        rw [h1];trivial
      · have n1 : Nat.beq g k = false := by rw [Bool.eq_false_iff, Ne, iT]; exact fun x => hkg x.symm
        have n2:Nat.beq d k=false:=by rw [Bool.eq_false_iff,Ne,iT];exact fun x=>hkd x.symm
        have h1:qL (full [(g,none),(d,some (Np sm f rv l l none))] (some d)) k=none:=by simp [full,qL,n1,n2]
        rw [h1]
        simp [set1,mv,hkd,hkg]

def FU (sm si:Value) (f:α→Value) (rv:Rep β) (l rem:List (α×β)):eu:=fun v e=>(v = .tuple #[.bool false]∧rem=[]∧Np sm f rv l [] none si e) ∨
 ∃ k x r1 p r2,v = .tuple #[.bool true,k,x]∧rem=r1 ++ p :: r2∧Np sm f rv l (r1 ++ r2) (some p) si e
def TB (sm si:Value) (f:α→Value) (rv:Rep β) (l rem:List (α×β)):eu:=fun v e=>(v = .bool false∧rem=[]∧Np sm f rv l [] none si e) ∨
 ∃ r1 p r2,v = .bool true∧rem=r1 ++ p :: r2∧Np sm f rv l (r1 ++ r2) (some p) si e
theorem Zo {κ:Type} {B:Base} {h:H} {L:Nat→Option iI} {F:κ→Option iI} {w:World} (hst:St B h (Sum.elim L F) w) {s bm bi:Nat} {f:α→Value} {rv:Rep β} {l rem:List (α×β)} {cur:Option (α×β)} (hk:L s=some (CX bm bi f rv l rem cur)) :
  ∃ es clock seen,w.heap[bm]? = some (.map es clock)∧w.heap[bi]? = some (.mapIter (some bm) clock seen clock)∧bm≠bi∧yS f rv h es.toList l∧wV es.toList clock∧yS f rv h (leftOf es seen).toList rem ∧
  ∀ p,cur=some p→∃ (e:MapEntry) (seen':Array Nat),seen=seen'.push e.born∧e ∈ es.toList∧e.key=f p.1∧rv.val h e.val p.2:=(hst.own (k:=Sum.inl s) hk).2
theorem Qd {w:World} {b:Nat} {o o':Obj} (hb:w.heap[b]? = some o):(ChangeMaps.setBlock w b o').heap[b]? = some o':=by
 have:=(Array.getElem?_eq_some_iff.1 hb).1
 simp [ChangeMaps.setBlock,this]
theorem Ju {w:World} {b i:Nat} {o':Obj} (hi:i≠b):(ChangeMaps.setBlock w b o').heap[i]? = w.heap[i]?:=by
 simp [ChangeMaps.setBlock,Array.getElem?_setIfInBounds_ne (Ne.symm hi)]
theorem TD {f:α→Value} {rv:Rep β} {g d:Nat} {sm si:Value} {x:Operand} {l rem:List (α×β)} {cur:Option (α×β)} (hgd:Nat.beq g d=false) (hd:o.dst=some d) (ho:o.op = .next x false) (hx:bQ N x (jZ si)) :
    dK P o N [(g,iO (Np sm f rv l rem cur) si)] aZ.qH [(g,none),(d,some (FU sm si f rv l rem))]:=by
  intro κ B F L h a w hst hn hk hdn next Q hnext _
  obtain ⟨e,hL,bm,bi,hsm,hsi,rfl⟩:=hk.1
  have hL:L g=some (CX bm bi f rv l rem cur):=hL
  have hx':a.eval x = .pointer (some ⟨bi,0,none⟩):=(hx h a hn:a.eval x=si).trans hsi
  have hne:g≠d:=fun x=>by rw [iT.2 x] at hgd;cases hgd
  obtain ⟨es,clock,seen,hb,hi,hbi,hr,hB,hleft,_⟩:=Zo hst hL
  obtain ⟨hcl,_⟩:=hst.own (k:=Sum.inl g) hL
  have hm:=hst.mv g d
  have hmd:mv L g d d=some (CX bm bi f rv l rem cur):=by simp [mv,hL]
  have YN:∀ (E:iI) (v:Value),FU sm si f rv l rem v E→EP L (set1 (mv L g d) d E) (full [(g,none),(d,some (FU sm si f rv l rem))] o.dst) (a.put o.dst v):=by
    intro E v hq
    rw [hd]
    intro k
    by_cases hkd:k=d
    · subst hkd
      have h1:qL (full [(g,none),(k,some (FU sm si f rv l rem))] (some k)) k=some (some (FU sm si f rv l rem)):=by simp [full,qL,hgd,Nat.beq_refl]
      rw [h1]
      exact ⟨_,qG,by rw [iq (hdn k hd)];exact hq⟩
    · by_cases hkg : k = g
      · subst hkg
        have h1:qL (full [(k,none),(d,some (FU sm si f rv l rem))] (some d)) k=some none:=by simp [full,qL,Nat.beq_refl]
        rw [h1];trivial
      · have n1 : Nat.beq g k = false := by rw [Bool.eq_false_iff, Ne, iT]; exact fun x => hkg x.symm
        have n2:Nat.beq d k=false:=by rw [Bool.eq_false_iff,Ne,iT];exact fun x=>hkd x.symm
        have h1:qL (full [(g,none),(d,some (FU sm si f rv l rem))] (some d)) k=none:=by simp [full,qL,n1,n2]
        rw [h1]
        simp [set1,mv,hkd,hkg]
  unfold Oper.qf
  rcases run_next_at (P:=P) w o.type bi bm clock clock seen es clock hi hb hB.2 (Nat.le_refl _) with ⟨h0,hrun⟩ | ⟨e,he,w1,hw1,hrun⟩
  · have:(execOp a.eval o).run P w = .ok (.value (.tuple #[.bool false])) w:=by
      simp only [execOp,ho,hx',Sem.run_bind,hrun,Result.andThen_ok,Sem.run_pure]
    rw [this]
    have hnil:(leftOf es seen).toList=[]:=by
      have:(leftOf es seen).toList.length=0:=by simpa using h0
      exact List.eq_nil_of_length_eq_zero this
    have hrem:rem=[]:=by
      rw [hnil] at hleft
      cases rem with
      | nil=>rfl
      | cons _ _=>exact hleft.elim
    subst hrem
    refine hnext _ h _ (set1 (mv L g d) d (CX bm bi f rv l [] none)) (mW.refl h) trivial ?_ (YN _ _ (.inl ⟨rfl,rfl,bm,bi,hsm,hsi,rfl⟩))
    exact hm.swap hmd (fun c hc=>⟨c,hc,rfl,Nat.le_refl _⟩) ⟨es,clock,seen,hb,hi,hbi,hr,hB,hleft,fun p hp=>by cases hp⟩
  · have:(execOp a.eval o).run P w = .ok (.value (.tuple #[.bool true,e.key,e.val])) (ChangeMaps.setBlock w1 bi (.mapIter (some bm) clock (seen.push e.born) clock)):=by
      simp only [execOp,ho,hx',Sem.run_bind,hrun,Result.andThen_ok,Sem.run_pure]
    rw [this]
    have hall:w1.heap=w.heap∧w1.os=w.os∧w1.tape=w.tape∧w1.output=w.output:=by rcases hw1 with rfl | rfl <;> exact ⟨rfl,rfl,rfl,rfl⟩
    have hdrw:w.drawn≤w1.drawn:=by rcases hw1 with rfl | rfl;exact Nat.le_refl _;exact Nat.le_succ _
    obtain ⟨e1,e2,r1,p,r2,hl,hrem,hkey,hval,hrest⟩:=hleft.split he
    have hmem:e ∈ es.toList:=by
      unfold leftOf at he
      rw [Array.toList_filter] at he
      exact (List.mem_filter.1 he).1
    refine hnext _ h _ (set1 (mv L g d) d (CX bm bi f rv l (r1 ++ r2) (some p))) (mW.refl h) trivial ?_ (YN _ _ (.inr ⟨_,_,r1,p,r2,rfl,hrem,bm,bi,hsm,hsi,rfl⟩))
    have hno:=fun o'=>(hcl (bi,0) (by simp [CX])).2.2 o' (Nat.zero_le _)
    refine hm.step (hdr:=hdrw) (Sum.inl d) (fun i=>i=bi) (fun i hi _=>⟨_,hmd,(bi,0),by simp [CX],hi.symm⟩) (by simp [ChangeMaps.setBlock,hall.1]) hall.2.1 hall.2.2.1 hall.2.2.2 (fun i _ hi=>(Ju hi).trans (by rw [hall.1])) (mW.refl h) (fun _ _ _ _=>rfl) ?_ rW ?_
    · rintro i o' u (rfl | hi') hu
      · rw [hno o'] at hu;cases hu
      · rw [hst.fresh hi'] at hu;cases hu
    · intro e' he'
      rw [rX he']
      refine ⟨fun c hc=>?_,es,clock,seen.push e.born,(Ju hbi).trans (by rw [hall.1];exact hb),Qd (o:=.mapIter (some bm) clock seen clock) (by rw [hall.1];exact hi),hbi,hr,hB,by rw [UQ hB.1 hl];exact hrest,fun p' hp'=>?_⟩
      · obtain ⟨_,h2,h3⟩:=hcl c hc
        exact ⟨.inr ⟨_,hmd,c,hc,rfl⟩,by simpa [ChangeMaps.setBlock,hall.1] using h2,h3⟩
      · cases hp'
        exact ⟨e,seen,rfl,hmem,hkey,hval⟩
theorem Kw {f:α→Value} {rv:Rep β} {g d:Nat} {sm si:Value} {l rem:List (α×β)} (hgd:Nat.beq g d=false) (hd:o.dst=some d) (ho:o.op = .extract (.tmp g) 0) :
  dK P o N [(g,FU sm si f rv l rem)] aZ.qH [(g,none),(d,some (TB sm si f rv l rem))]:=by
 intro κ B F L h a w hst hn hk hdn next Q hnext _
 obtain ⟨e,hL,hq⟩:=hk.1
 have hL:L g=some e:=hL
 have hne:g≠d:=fun x=>by rw [iT.2 x] at hgd;cases hgd
 unfold Oper.qf
 rcases hq with ⟨hv,h1,h2⟩ | ⟨k,x,r1,p,r2,hv,h1,h2⟩
 ·have hv':a.eval (.tmp g) = .tuple #[.bool false]:=hv
  have:(execOp a.eval o).run P w = .ok (.value (.bool false)) w:=by simp [execOp,ho,hv',Instr.extract]
  rw [this]
  refine hnext _ h w _ (mW.refl h) trivial (hst.mv g d) ?_
  rw [hd]
  exact Gq hne hL (by rw [iq (hdn d hd)];exact .inl ⟨rfl,h1,h2⟩)
 ·have hv':a.eval (.tmp g) = .tuple #[.bool true,k,x]:=hv
  have:(execOp a.eval o).run P w = .ok (.value (.bool true)) w:=by simp [execOp,ho,hv',Instr.extract]
  rw [this]
  refine hnext _ h w _ (mW.refl h) trivial (hst.mv g d) ?_
  rw [hd]
  exact Gq hne hL (by rw [iq (hdn d hd)];exact .inr ⟨r1,p,r2,rfl,h1,h2⟩)
theorem PS [DecidableEq α] {K:TypeId} {rk:Rep α} {f:α→Value} {rv:Rep β} {g:Nat} {sm si:Value} {x:Operand} {l rem:List (α×β)} {p:α×β} (hf:zl P K rk f) (ho:o.op = .entry x) (hx:bQ N x (jZ si)) :
  dK P o N [(g,iO (Np sm f rv l rem (some p)) si)] (F6 (fV rk p.1) (fV rv p.2)) []:=by
 intro κ B F L h a w hst hn hk hdn next Q hnext _
 obtain ⟨e,hL,bm,bi,hsm,hsi,rfl⟩:=hk.1
 have hL:L g=some (CX bm bi f rv l rem (some p)):=hL
 have hx':a.eval x = .pointer (some ⟨bi,0,none⟩):=(hx h a hn:a.eval x=si).trans hsi
 obtain ⟨es,clock,seen,hb,hi,hbi,hr,hB,hleft,hc⟩:=Zo hst hL
 obtain ⟨e,seen',hs,he,hkey,hval⟩:=hc p rfl
 rw [hs] at hi
 have hrun:=run_entry_at (P:=P) w bi bm clock seen' es clock e hi hb he hB.1
 unfold Oper.qf
 have:(execOp a.eval o).run P w = .ok (.value (.tuple #[e.key,e.val])) w:=by
  simp only [execOp,ho,hx',Sem.run_bind,hrun,Result.andThen_ok,Sem.run_pure]
 rw [this]
 exact hnext _ h w L (mW.refl h) ⟨_,_,rfl,by rw [hkey];exact hf.val h p.1,hval⟩ hst mM
section
variable {ρ:Option Nat} {κ:Type} {B:Base} {h0:H} {Γ:Ctx} {Λ:Own} {F:κ→Option iI} {n:Nat} {a:Act} {w:World} {Q:Exit→Act→World→Prop} {sm si:Value} {f:α→Value} {rv:Rep β} {l rem:List (α×β)}
theorem At.PO {q:eu} (s g:Nat) (hsg:Nat.beq s g=false) (hAt:At B h0 Γ Λ F n a w) (hs:Λ s=some q) :
  ∃ sv,At B h0 (fun k=>bif Nat.beq s k then jZ sv else Γ k) (fun k=>bif Nat.beq g k then some (iO q sv) else bif Nat.beq s k then none else Λ k) F n a w:=by
 obtain ⟨h,L,hle,hst,sH,oq,hsz,hdf⟩:=hAt
 obtain ⟨e,hL,hq⟩:=sH s q hs
 have hne:s≠g:=fun x=>by rw [iT.2 x] at hsg;cases hsg
 refine ⟨a.gt s,h,mv L s g,hle,hst.mv s g,?_,?_,hsz,hdf⟩
 ·intro k q' hq'
  cases hk:Nat.beq g k with
  | true=>simp only [hk,cond_true] at hq';cases hq';rw [iT] at hk;subst hk;exact ⟨e,by simp [mv,hL],hq⟩
  | false =>
   simp only [hk,cond_false] at hq'
   cases hk2:Nat.beq s k with
   | true=>simp only [hk2,cond_true] at hq';cases hq'
   | false =>
    simp only [hk2,cond_false] at hq'
    have n1:k≠g:=fun x=>by rw [iT.2 x.symm] at hk;cases hk
    have n2:k≠s:=fun x=>by rw [iT.2 x.symm] at hk2;cases hk2
    obtain ⟨e',h1,h2⟩:=sH k q' hq'
    exact ⟨e',by simp [mv,n1,n2,h1],h2⟩
 ·intro k
  cases hk:Nat.beq s k with
  | true=>simp only [hk,cond_true];rw [iT] at hk;subst hk;exact rfl
  | false=>simp only [hk,cond_false];exact oq k
theorem At.WE {q:eu} (g:Nat) {q':eu} (hAt:At B h0 Γ Λ F n a w) (hs:Λ g=some q)
  (hq:∀ v e,q v e→∃ e',q' v e'∧(∀ c ∈ e'.claims,∃ c0 ∈ e.claims,c0.1=c.1∧c0.2≤c.2)∧∀ h m,e.ok h m→e'.ok h m):At B h0 Γ (fun k=>bif Nat.beq g k then some q' else Λ k) F n a w:=by
 obtain ⟨h,L,hle,hst,sH,oq,hsz,hdf⟩:=hAt
 obtain ⟨e,hL,hq1⟩:=sH g q hs
 obtain ⟨e',hq2,hcl,hok⟩:=hq _ _ hq1
 refine ⟨h,_,hle,hst.swap hL hcl (hok _ _ (hst.own (k:=Sum.inl g) hL).2),?_,oq,hsz,hdf⟩
 intro k q1 h1
 cases hk:Nat.beq g k with
 | true=>simp only [hk,cond_true] at h1;cases h1;rw [iT] at hk;subst hk;exact ⟨e',qG,hq2⟩
 | false =>
  simp only [hk,cond_false] at h1
  obtain ⟨e1,h2,h3⟩:=sH k q1 h1
  have n1:k≠g:=fun x=>by rw [iT.2 x.symm] at hk;cases hk
  exact ⟨e1,by simp [set1,n1,h2],h3⟩
theorem At.TF {cur:Option (α×β)} (g:Nat) (hAt:At B h0 Γ Λ F n a w) (hs:Λ g=some (iO (Np sm f rv l rem cur) si)):At B h0 Γ (fun k=>bif Nat.beq g k then some (iO (Np sm f rv l rem none) si) else Λ k) F n a w :=
 hAt.WE g hs fun v e ⟨bm,bi,h1,h2,he⟩=>⟨CX bm bi f rv l rem none,⟨bm,bi,h1,h2,rfl⟩,by subst he;exact fun c hc=>⟨c,hc,rfl,Nat.le_refl _⟩,by
  subst he
  rintro h m ⟨es,c,s,k1,k2,k3,k4,k5,k6,_⟩
  exact ⟨es,c,s,k1,k2,k3,k4,k5,k6,fun p hp=>by cases hp⟩⟩
theorem At.TG {cur:Option (α×β)} (g:Nat) (hAt:At B h0 Γ Λ F n a w) (hs:Λ g=some (iO (Np sm f rv l rem cur) si)):At B h0 Γ (fun k=>bif Nat.beq g k then some (iO (dL f rv l) sm) else Λ k) F n a w :=
 hAt.WE g hs fun v e ⟨bm,bi,h1,h2,he⟩=>⟨rD bm f rv l,⟨bm,h1,rfl⟩,by subst he;intro c hc;exact ⟨c,by simp only [rD,List.mem_singleton] at hc;subst hc;simp [CX],rfl,Nat.le_refl _⟩,by
  subst he
  rintro h m ⟨es,c,s,k1,k2,k3,k4,k5,k6,_⟩
  exact ⟨es,c,k1,k4,k5⟩⟩
theorem Nq {t:Nat} {x y:Code} (g:Nat) (hgt:Nat.beq t g=false) (hAt:At B h0 Γ Λ F n a w) (hs:Λ t=some (TB sm si f rv l rem))
  (ht:∀ r1 p r2,rem=r1 ++ p :: r2→At B h0 Γ (fun k=>bif Nat.beq g k then some (iO (Np sm f rv l (r1 ++ r2) (some p)) si) else bif Nat.beq t k then none else Λ k) F n a w→x.qf ρ P Q a w)
  (hf:rem=[]→At B h0 Γ (fun k=>bif Nat.beq g k then some (iO (Np sm f rv l [] none) si) else bif Nat.beq t k then none else Λ k) F n a w→y.qf ρ P Q a w):(Code.cond (.tmp t) x y).qf ρ P Q a w:=by
 obtain ⟨h,L,hle,hst,sH,oq,hsz,hdf⟩:=hAt
 obtain ⟨e,hL,hq⟩:=sH t _ hs
 have hne:t≠g:=fun x=>by rw [iT.2 x] at hgt;cases hgt
 have key:∀ q:eu,q si e→At B h0 Γ (fun k=>bif Nat.beq g k then some (iO q si) else bif Nat.beq t k then none else Λ k) F n a w:=by
  intro q hq
  refine ⟨h,mv L t g,hle,hst.mv t g,?_,oq,hsz,hdf⟩
  intro k q' hq'
  cases hk:Nat.beq g k with
  | true=>simp only [hk,cond_true] at hq';cases hq';rw [iT] at hk;subst hk;exact ⟨e,by simp [mv,hL],hq⟩
  | false =>
   simp only [hk,cond_false] at hq'
   cases hk2:Nat.beq t k with
   | true=>simp only [hk2,cond_true] at hq';cases hq'
   | false =>
    simp only [hk2,cond_false] at hq'
    have n1:k≠g:=fun x=>by rw [iT.2 x.symm] at hk;cases hk
    have n2:k≠t:=fun x=>by rw [iT.2 x.symm] at hk2;cases hk2
    obtain ⟨e',h1,h2⟩:=sH k q' hq'
    exact ⟨e',by simp [mv,n1,n2,h1],h2⟩
 rcases hq with ⟨hv,h1,h2⟩ | ⟨r1,p,r2,hv,h1,h2⟩
 ·exact wp_cond_split (t:=false) (show Act.eval a (.tmp t)=_ from hv) (fun e=>by cases e) (fun _=>hf h1 (key _ h2))
 ·exact wp_cond_split (t:=true) (show Act.eval a (.tmp t)=_ from hv) (fun _=>ht r1 p r2 h1 (key _ h2)) (fun e=>by cases e)
theorem Jm {S R κ':Type} {body:Code} {f:S→κ'→Option S} {K:S→Option R} {r:R} {l:List κ'} (Inv:S→List κ'→Act→World→Prop) (Post:Exit→Act→World→Prop)
  (hb:∀ s rem a w,(∀ π,π.Perm rem→(IK f π s).bind K=some r)→Inv s rem a w→body.qf ρ P (fun e a' w'=>(e = .normal∧∃ s' r1 p r2,rem=r1 ++ p :: r2∧f s p=some s'∧Inv s' (r1 ++ r2) a' w')∨(e ≠ .normal∧Post e a' w')) a w) :
  ∀ (s0:S) (a:Act) (w:World),(∀ π,π.Perm l→(IK f π s0).bind K=some r)→Inv s0 l a w→(Code.loop body).qf ρ P Post a w:=by
 intro s0 a w hH hI b k cs hro hbf hrm
 have key:∀ N (l:List κ') s a w,l.length=N→(∀ π,π.Perm l→(IK f π s).bind K=some r)→Inv s l a w →
   ∃ e a' w',Post e a' w'∧ArrivesIn (Machine.fenced P (Me ρ)) P (lone (b.atR a (.code body :: .inLoop body :: k)) cs w) b k cs e a' w':=by
  intro N
  induction N using Nat.strongRecOn with
  | _ N ih =>
   intro l s a w hl hH hI
   obtain ⟨e,a₁,w₁,hq,harr⟩:=hb s l a w hH hI b (.inLoop body :: k) cs hro hbf hrm
   rcases hq with ⟨rfl,s',r1,p,r2,he,hs,hI'⟩ | ⟨hne,hp⟩
   ·obtain ⟨s2,hs2,hH'⟩:=Ky hH he
    rw [hs] at hs2;cases hs2
    obtain ⟨e₂,a₂,w₂,hq₂,harr₂⟩:=ih (r1 ++ r2).length (by rw [← hl,he];simp) (r1 ++ r2) s' a₁ w₁ rfl hH' hI'
    exact ⟨e₂,a₂,w₂,hq₂,.of_steps (StepsIn.trans harr (.one (fenced_calm hbf hrm rfl) stepR_inLoop)) harr₂⟩
   ·exact ⟨e,a₁,w₁,hp,.pass (x:=.inLoop body) rfl (fun _ _=>.inl hne) harr⟩
 obtain ⟨e,a',w',hq,harr⟩:=key _ l s0 a w rfl hH hI
 exact ⟨e,a',w',hq,.of_steps (.one (fenced_calm hbf hrm rfl) stepR_loop) harr⟩
end
end Go.KB
namespace Go.KB
variable {P:Program} {o:Oper} {N:List (Nat×aZ)} {α β:Type}
theorem callsG {f:FuncId} {args:List aZ} {pre:List (Nat×eu)} {post:List Po} {res:aZ} {gs:List Nat} {κ:Type} {B:Base} {h:H} {L:Nat→Option iI} {F:κ→Option iI} {w:World} {vs:List Value}
  (hc:lY P f args pre post none res) (hcc:CU pre gs=true) (hst:St B h (Sum.elim L F) w) (hlen:args.length=vs.length) (hpre:KP pre (fun k=>(toC pre gs k).bind L) (Qb fun k=>vs.getD k undef))
  (hargs:∀ (j:Nat) (g:aZ) (u:Value),args[j]? = some g→vs[j]? = some u→g.p h undef u) :
  Calls P f vs.toArray w (fun e w'=>∃ v h' E',e = .returned v∧mW h h'∧St B h' (Sum.elim (fun s=>match AX pre gs s with | some k=>E' k | none=>L s) F) w'∧DC pre post E' (Qb fun k=>vs.getD k undef)∧res.p h' undef v):=by
 have hst1:St B h (Sum.elim (fun k=>(toC pre gs k).bind L) (Sum.elim (fun s=>if (AX pre gs s).isSome then none else L s) F)) w:=by
  refine hst.BK (fun k=>match k with | .inl k=>.inl ((toC pre gs k).getD 0) | .inr (.inl s)=>.inl s | .inr (.inr x)=>.inr x) ?_ ?_
  ·intro k e he
   cases k with
   | inl k =>
    simp only [Sum.elim_inl] at he
    cases ht:toC pre gs k with
    | none=>rw [ht] at he;cases he
    | some g=>rw [ht] at he;simpa [ht] using he
   | inr k=>cases k with
    | inl s =>
     simp only [Sum.elim_inr,Sum.elim_inl] at he
     split at he
     ·cases he
     ·exact he
    | inr x=>exact he
  ·intro k k' e e' hk1 hk2 hne
   have key:∀ k e,(toC pre gs k).bind L=some e→∃ g,toC pre gs k=some g∧AX pre gs g=some k:=by
    intro k e he
    cases ht:toC pre gs k with
    | none=>rw [ht] at he;cases he
    | some g=>exact ⟨g,rfl,WN hcc ht⟩
   have keyS:∀ s e,(if (AX pre gs s).isSome then none else L s)=some e→AX pre gs s=none:=by
    intro s e he
    split at he
    ·cases he
    ·rename_i hh;simpa using hh
   cases k with
   | inl k =>
    obtain ⟨g,hg,hg'⟩:=key k e hk1
    cases k' with
    | inl k' =>
     obtain ⟨g2,hg2,RU⟩:=key k' e' hk2
     intro he
     simp only [hg,hg2,Option.getD_some] at he
     have:=Sum.inl.inj he
     rw [this,RU] at hg';cases hg';exact hne rfl
    | inr k'=>cases k' with
     | inl s =>
      intro he
      simp only [hg,Option.getD_some] at he
      have:=Sum.inl.inj he
      have h2:=keyS s e' hk2
      rw [← this,hg'] at h2;cases h2
     | inr x=>intro he;cases he
   | inr k=>cases k with
    | inl s =>
     have h2:=keyS s e hk1
     cases k' with
     | inl k' =>
      obtain ⟨g2,hg2,RU⟩:=key k' e' hk2
      intro he
      simp only [hg2,Option.getD_some] at he
      have:=Sum.inl.inj he
      rw [this,RU] at h2;cases h2
     | inr k'=>cases k' with
      | inl s'=>intro he;exact hne (by rw [Sum.inl.inj he])
      | inr x=>intro he;cases he
    | inr x=>cases k' with
     | inl k'=>intro he;cases he
     | inr k'=>cases k' with
      | inl s'=>intro he;cases he
      | inr x'=>intro he;exact hne (by rw [Sum.inr.inj he])
 refine (hc _ B _ h w vs _ hst1 hlen hpre hargs).mono ?_
 rintro e w' ⟨v,h',E',rfl,hl,hst',hpost,_,hp⟩
 refine ⟨v,h',E',rfl,hl,?_,hpost,hp⟩
 refine hst'.BK (fun k=>match k with | .inl s=>(match AX pre gs s with | some k=>.inl k | none=>.inr (.inl s)) | .inr x=>.inr (.inr x)) ?_ ?_
 ·intro k e he
  cases k with
  | inr x=>exact he
  | inl s =>
   simp only [Sum.elim_inl] at he
   simp only []
   cases ho:AX pre gs s with
   | some k=>rw [ho] at he;exact he
   | none=>rw [ho] at he;simpa [ho] using he
 ·intro k k' e e' hk1 hk2 hne
  cases k with
  | inr x=>cases k' with
   | inr x'=>intro he;exact hne (by rw [Sum.inr.inj (Sum.inr.inj he)])
   | inl s=>intro he;simp only [] at he;cases ho:AX pre gs s <;> rw [ho] at he <;> cases he
  | inl s=>cases k' with
   | inr x=>intro he;simp only [] at he;cases ho:AX pre gs s <;> rw [ho] at he <;> cases he
   | inl s' =>
    have hss:s≠s':=fun x=>hne (by rw [x])
    intro he
    simp only [] at he
    cases ho:AX pre gs s with
    | none=>cases ho':AX pre gs s' with
     | none=>rw [ho,ho'] at he;exact hss (Sum.inl.inj (Sum.inr.inj he))
     | some k'=>rw [ho,ho'] at he;cases he
    | some k=>cases ho':AX pre gs s' with
     | none=>rw [ho,ho'] at he;cases he
     | some k' =>
      rw [ho,ho'] at he
      have:=Sum.inl.inj he
      subst this
      have h1:=Ox hcc ho
      have h2:=Ox hcc ho'
      rw [h1] at h2;exact hss (Option.some.inj h2)
abbrev KE:=List (Nat×iI)
def CS:KE→Nat→Option iI
 | [],_=>none
 | (k,e) :: r,s=>bif Nat.beq k s then some e else CS r s
def sW (l:KE):iI where
 claims:=l.flatMap (fun p=>p.2.claims)
 ok:=fun h m=>∀ p ∈ l,p.2.ok h m
 mono:=fun hl x p hp=>p.2.mono hl (x p hp)
 frame:=fun hm x p hp=>p.2.frame (fun c hc=>hm c (List.mem_flatMap.2 ⟨p,hp,hc⟩)) (x p hp)
def Ee (l:KE):Prop:=l.Pairwise fun p p'=>Gm p.2.claims p'.2.claims
def DI:KE→Bool
 | []=>true
 | (k,_) :: r=>!((CS r k).isSome)&&DI r
theorem JU:∀ {l:KE} {k:Nat} {e:iI},CS l k=some e→(k,e) ∈ l:=by
 intro l
 induction l with
 | nil=>intro k e h;cases h
 | cons x r ih =>
  obtain ⟨k0,e0⟩:=x
  intro k e h
  simp only [CS] at h
  cases hk:Nat.beq k0 k with
  | true=>rw [hk] at h;cases h;rw [iT] at hk;subst hk;simp
  | false=>rw [hk] at h;exact List.mem_cons_of_mem _ (ih h)
theorem Hy:∀ {l:KE} {k:Nat} {e:iI},(k,e) ∈ l→(CS l k).isSome=true:=by
 intro l
 induction l with
 | nil=>intro k e h;cases h
 | cons x r ih =>
  obtain ⟨k0,e0⟩:=x
  intro k e h
  simp only [CS]
  cases hk:Nat.beq k0 k with
  | true=>rfl
  | false =>
   rcases List.mem_cons.1 h with h | h
   ·cases h;rw [Nat.beq_refl] at hk;cases hk
   ·exact ih h
theorem Ee.get {l:KE} (hd:Ee l):∀ {k k':Nat} {e e':iI},CS l k=some e→CS l k'=some e'→k≠k'→Gm e.claims e'.claims:=by
 induction l with
 | nil=>intro k k' e e' h;cases h
 | cons x r ih =>
  obtain ⟨k0,e0⟩:=x
  intro k k' e e' h h' hne
  obtain ⟨h1,h2⟩:=List.pairwise_cons.1 hd
  simp only [CS] at h h'
  cases hk:Nat.beq k0 k with
  | true =>
   rw [hk] at h;cases h
   rw [iT] at hk;subst hk
   have hk':Nat.beq k0 k'=false:=by rw [Bool.eq_false_iff,Ne,iT];exact hne
   rw [hk'] at h'
   exact h1 _ (JU h')
  | false =>
   rw [hk] at h
   cases hk':Nat.beq k0 k' with
   | true =>
    rw [hk'] at h';cases h'
    have:=h1 _ (JU h)
    exact fun c hc c' hc' he=>this c' hc' c hc he.symm
   | false=>rw [hk'] at h';exact ih h2 h h' hne
section
variable {κ:Type} {B:Base} {h:H} {L:Nat→Option iI} {F:κ→Option iI} {w:World}
theorem Oq (hst:St B h (Sum.elim L F) w):∀ {l:KE},(∀ p ∈ l,L p.1=some p.2)→DI l=true→Ee l:=by
 intro l
 induction l with
 | nil=>intro _ _;exact List.Pairwise.nil
 | cons x r ih =>
  obtain ⟨k,e⟩:=x
  intro hL hn
  simp only [DI,Bool.and_eq_true,Bool.not_eq_true'] at hn
  refine List.pairwise_cons.2 ⟨fun p hp=>?_,ih (fun p hp=>hL p (List.mem_cons_of_mem _ hp)) hn.2⟩
  have hne:k≠p.1:=fun e'=>by
   have:=Hy (l:=r) (k:=p.1) (e:=p.2) hp
   rw [← e',hn.1] at this;cases this
  exact fun c hc c' hc'=>hst.uo (k:=.inl k) (k':=.inl p.1) (hL _ List.mem_cons_self) (hL _ (List.mem_cons_of_mem _ hp)) (fun he=>hne (Sum.inl.inj he)) c hc c' hc'
theorem St.sW (hst:St B h (Sum.elim L F) w) {l:KE} (g:Nat) (hL:∀ p ∈ l,L p.1=some p.2):St B h (Sum.elim (fun k=>if k=g then some (sW l) else if (CS l k).isSome then none else L k) F) w:=by
  have key:∀ k e,(if k=g then some (KB.sW l) else if (CS l k).isSome then none else L k)=some e→(k=g∧e=KB.sW l)∨(k≠g∧(CS l k)=none∧L k=some e):=by
    intro k e he
    split at he
    · rename_i h1;cases he;exact .inl ⟨h1,rfl⟩
    · rename_i h1
      split at he
      · cases he
      · rename_i h2
        refine .inr ⟨h1,?_,he⟩
        cases hl:CS l k with
        | none=>rfl
        | some x=>rw [hl] at h2;exact absurd rfl h2
  refine ⟨hst.low,hst.base,fun x=>hst.ext x,?_,?_⟩
  · intro k e he
    cases k with
    | inr x=>exact hst.own (k:=.inr x) he
    | inl k =>
      rcases key k e he with ⟨rfl,rfl⟩ | ⟨_,_,hk⟩
      · refine ⟨fun c hc => ?_, fun p hp => (hst.own (k := .inl p.1) (hL p hp)).2⟩
        obtain ⟨p,hp,hc⟩:=List.mem_flatMap.1 hc
        exact (hst.own (k:=.inl p.1) (hL p hp)).1 c hc
      · exact hst.own (k:=.inl k) hk
  · have one:∀ (x:Nat ⊕ κ) e',Sum.elim (fun k=>if k=g then some (KB.sW l) else if (CS l k).isSome then none else L k) F x=some e'→x ≠ .inl g→∀ c ∈ (KB.sW l).claims,∀ c' ∈ e'.claims,c.1≠c'.1:=by
      intro x e' he hx c hc c' hc'
      obtain ⟨p,hp,hc⟩:=List.mem_flatMap.1 hc
      cases x with
      | inr y=>exact hst.uo (k:=.inl p.1) (k':=.inr y) (hL p hp) he (fun h=>by cases h) c hc c' hc'
      | inl k =>
        rcases key k e' he with ⟨rfl,_⟩ | ⟨_,h1,hk⟩
        · exact absurd rfl hx
        · have hne : p.1 ≠ k := fun e' => by have := Hy (l := l) (k := p.1) (e := p.2) hp; rw [e', h1] at this; cases this
          exact hst.uo (k:=.inl p.1) (k':=.inl k) (hL p hp) hk (fun h=>hne (Sum.inl.inj h)) c hc c' hc'
    intro k k' e e' he he' hne c hc c' hc'
    by_cases h1:k = .inl g
    · subst h1
      have:e=KB.sW l:=by
        rcases key g e he with ⟨_,h⟩ | ⟨h,_⟩
        · exact h
        · exact absurd rfl h
      subst this
      exact one k' e' he' (fun h=>hne h.symm) c hc c' hc'
    · by_cases h2 : k' = .inl g
      · subst h2
        have:e'=KB.sW l:=by
          rcases key g e' he' with ⟨_,h⟩ | ⟨h,_⟩
          · exact h
          · exact absurd rfl h
        subst this
        exact fun h=>one k e he h1 c' hc' c hc h.symm
      · have tr:∀ (x:Nat ⊕ κ) e',Sum.elim (fun k=>if k=g then some (KB.sW l) else if (CS l k).isSome then none else L k) F x=some e'→x ≠ .inl g→Sum.elim L F x=some e':=by
          intro x e' he hx
          cases x with
          | inr y=>exact he
          | inl k =>
            rcases key k e' he with ⟨rfl,_⟩ | ⟨_,_,hk⟩
            · exact absurd rfl hx
            · exact hk
        exact hst.uo (tr k e he h1) (tr k' e' he' h2) hne c hc c' hc'
theorem St.splitK (hst:St B h (Sum.elim L F) w) {l:KE} {g:Nat} (hg:L g=some (KB.sW l)) (hd:Ee l):St B h (Sum.elim (fun k=>match CS l k with | some e=>some e | none=>if k=g then none else L k) F) w:=by
 obtain ⟨hcl,hok⟩:=hst.own (k:=.inl g) hg
 have key:∀ k e,(match CS l k with | some e=>some e | none=>if k=g then none else L k)=some e→CS l k=some e∨(CS l k=none∧k≠g∧L k=some e):=by
  intro k e he
  cases hl:CS l k with
  | some e0=>rw [hl] at he;cases he;exact .inl rfl
  | none =>
   rw [hl] at he
   simp only [] at he
   split at he
   ·cases he
   ·rename_i h1;exact .inr ⟨rfl,h1,he⟩
 have cl:∀ {k e c},CS l k=some e→c ∈ e.claims→c ∈ (KB.sW l).claims:=fun hk hc=>List.mem_flatMap.2 ⟨_,JU hk,hc⟩
 refine ⟨hst.low,hst.base,fun x=>hst.ext x,?_,?_⟩
 ·intro k e he
  cases k with
  | inr x=>exact hst.own (k:=.inr x) he
  | inl k =>
   rcases key k e he with hk | ⟨_,_,hk⟩
   ·exact ⟨fun c hc=>hcl c (cl hk hc),hok _ (JU hk)⟩
   ·exact hst.own (k:=.inl k) hk
 ·intro k k' e e' he he' hne c hc c' hc'
  have out:∀ (x:Nat ⊕ κ) e',Sum.elim (fun k=>match CS l k with | some e=>some e | none=>if k=g then none else L k) F x=some e'→(∃ k,x = .inl k∧CS l k=some e')∨(x ≠ .inl g∧Sum.elim L F x=some e'):=by
   intro x e' he
   cases x with
   | inr y=>exact .inr ⟨fun h=>(by cases h),he⟩
   | inl k =>
    rcases key k e' he with hk | ⟨_,h1,hk⟩
    ·exact .inl ⟨k,rfl,hk⟩
    ·exact .inr ⟨fun h=>h1 (Sum.inl.inj h),hk⟩
  rcases out k e he with ⟨k1,rfl,h1⟩ | ⟨h1,h2⟩
  ·rcases out k' e' he' with ⟨k2,rfl,h3⟩ | ⟨h3,h4⟩
   ·exact hd.get h1 h3 (fun h=>hne (by rw [h])) c hc c' hc'
   ·exact hst.uo (k:=.inl g) hg h4 (fun h=>h3 h.symm) c (cl h1 hc) c' hc'
  ·rcases out k' e' he' with ⟨k2,rfl,h3⟩ | ⟨h3,h4⟩
   ·exact hst.uo h2 (k':=.inl g) hg h1 c hc c' (cl h3 hc')
   ·exact hst.uo h2 h4 hne c hc c' hc'
end
def YlOk (P:Program) {X ι:Type} (A:ι→List aZ) (YE:X→iI→Prop) (Y:X→ι→Option (X×Bool)) (h:H) (l:Nat):Prop :=
 ∀ (i:ι) (x x':X) (b:Bool),Y x i=some (x',b)→∀ (κ:Type) (B:Base) (L:κ→Option iI) (h':H) (w:World) (vs:List Value) (e:iI),mW h h'→St B h' (Sum.elim (fun _:Unit=>some e) L) w→YE x e→(A i).length=vs.length →
  (∀ (j:Nat) (g:aZ) (v:Value),(A i)[j]? = some g→vs[j]? = some v→g.p h' undef v) →
  YieldAt (Me none) 0 P l vs.toArray w (fun en w'=>∃ h'' e',en = .returned (.bool b)∧mW h' h''∧St B h'' (Sum.elim (fun _:Unit=>some e') L) w'∧YE x' e')
def Pn (P:Program) {X ι:Type} (A:ι→List aZ) (YE:X→iI→Prop) (Y:X→ι→Option (X×Bool)):aZ :=
 ⟨none,fun h _ v=>∃ l,v = .func (.yield l) #[] #[]∧YlOk P A YE Y h l,fun hl ⟨l,e,k⟩=>⟨l,e,fun i x x' b hY κ B L h' w vs en hl'=>k i x x' b hY κ B L h' w vs en (hl.trans hl')⟩⟩
def yE {X:Type} (YE:X→iI→Prop) (x:X):eu:=fun _ e=>YE x e
theorem Gh.yE {X:Type} {YE:X→iI→Prop} {x:X}:Gh (yE YE x):=fun _ _ _ h=>h
theorem Nr {X ι:Type} {A:ι→List aZ} {YE:X→iI→Prop} {Y:X→ι→Option (X×Bool)} (i:ι) {x x':X} {b:Bool} {g:Nat} {z:Operand} {xs:Array Operand} {ts:Array TypeId} (hY:Y x i=some (x',b)) (hd:pF (A i)=true)
  (ho:o.op = .call { callee:=.value z,args:=xs,argTypes:=ts }) (hz:bQ N z (Pn P A YE Y)) (hargs:uV N (A i) xs.toList):dK P o N [(g,yE YE x)] (fV Rep.bool b) [(g,some (yE YE x'))]:=by
 intro κ B F L h a w hst hn hk hdn next Q hnext _
 obtain ⟨e,hL,hq⟩:=hk.1
 have hL:L g=some e:=hL
 obtain ⟨l,hv,hyl⟩:=hz h a hn
 have hdp:=nC hd
 obtain ⟨hlen,hall⟩:=hargs.spec
 have hst1:St B h (Sum.elim (fun _:Unit=>some e) (Sum.elim (fun k=>if k=g then none else L k) F)) w:=by
  have:=(Fq hL).symm ▸ hst
  exact St.out this
 obtain ⟨fn,tmps,assign,body,hy,hR⟩:=hyl i x x' b hY _ B _ h w (xs.toList.map a.eval) e (mW.refl h) hst1 hq (by rw [List.length_map];exact hlen) (by
  intro j gg v hg hv
  rw [List.getElem?_map] at hv
  cases hx:xs.toList[j]? with
  | none=>rw [hx] at hv;cases hv
  | some x =>
   rw [hx] at hv;cases hv
   have:=hall j gg x hg hx h a hn
   unfold aZ.dv at this
   rw [hdp gg (List.mem_of_getElem? hg)] at this
   exact this)
 have e1:(xs.toList.map a.eval).toArray=xs.map a.eval:=by apply Array.ext';simp
 rw [e1] at hy
 have hrun:(execOp a.eval o).run P w = .ok (.round l fn tmps assign body) w:=by
  simp only [execOp,ho,Sem.run_bind]
  simp [resolve,hv,Deferred.ofValue,invoke,hy]
 unfold Oper.qf
 rw [hrun]
 show RoundIn (Me none) 0 P l fn tmps assign body w _
 refine hR.mono ?_
 rintro en w' ⟨h',e',rfl,hl,hst',hq'⟩
 refine hnext (.bool b) h' w' _ hl (kP.2 rfl) hst'.into ?_
 exact mg hq'
def lu (l:Nat) (r:Loop):iI where
 claims:=[(l,0)]
 ok:=fun _ m=>m l=some (.loop r)
 mono:=fun _ x=>x
 frame:=fun hm x=>by rw [hm (l,0) (by simp)];exact x
def nP (D:Nat):iI where
 claims:=[(D,0)]
 ok:=fun _ m=>m D=some (.deferred (some []))
 mono:=fun _ x=>x
 frame:=fun hm x=>by rw [hm (D,0) (by simp)];exact x
def WQ (l:Nat) (r:Loop):eu:=fun _ e=>e=lu l r
def MG (D:Nat):eu:=fun _ e=>e=nP D
def Qe (r:Loop):Loop:={ r with state:=.busy }
def mark (D:Nat):Deferred:={ target:=.collected D,args:=#[] }
def UR (Λ:Own):List (Nat×eu)→Prop
 | []=>True
 | (k,q) :: r=>Λ k=some q∧UR Λ r
def GhL:List (Nat×eu)→Prop
 | []=>True
 | (_,q) :: r=>Gh q∧GhL r
def xOf (js:List Exit):Option Nat→Exit
 | none=>.normal
 | some k=>js.getD k .normal
def YO:Exit→Option Code
 | .ret=>some .ret
 | .exit id=>some (.exit id)
 | _=>none
def TW:List Exit→Bool
 | []=>true
 | e :: r=>(YO e).isSome&&TW r
def yl {S ι:Type} (g:S→ι→Option (S×Option Nat)) (m:Nat):S×Option Nat→ι→Option ((S×Option Nat)×Bool):=fun x i=>match x.2 with
 | none=>(match g x.1 i with
  | some (s',j)=>(match j with | none=>some ((s',none),true) | some k=>bif Nat.blt k m then some ((s',some k),false) else none)
  | none=>none)
 | some _=>none
def RoundP (n:Nat) {κ:Type} (B:Base) (h0:H) (F:κ→Option iI) (l:Nat) (r:Loop) (D:Nat) (Qs:List (Nat×eu)) (js:List Exit) (j:Option Nat):Exit→Act→World→Prop :=
 fun e a w=>xOf js j=e∧∃ Γ Λ,At B h0 Γ Λ F n a w∧Λ 4998=some (WQ l (Qe r))∧Λ 4999=some (MG D)∧UR Λ Qs
section
variable {κ:Type} {B:Base} {h h0:H} {L:Nat→Option iI} {Γ:Ctx} {Λ:Own} {F:κ→Option iI} {n:Nat} {a:Act} {w:World} {l D:Nat} {r:Loop}
theorem Oz (hst:St B h (Sum.elim L F) w) {k:Nat} (hL:L k=some (lu l r)) (r':Loop):w.heap[l]? = some (.loop r)∧St B h (Sum.elim (set1 L k (lu l r')) F) (w.putObj l (.loop r')):=by
 obtain ⟨hcl,hok⟩:=hst.own (k:=Sum.inl k) hL
 have hl:w.heap[l]? = some (.loop r):=hok
 have hlt:=(Array.getElem?_eq_some_iff.1 hl).1
 refine ⟨hl,?_⟩
 have hno:=fun o'=>(hcl (l,0) (by simp [lu])).2.2 o' (Nat.zero_le _)
 refine hst.step (Sum.inl k) (fun i=>i=l) (fun i hi _=>⟨_,hL,(l,0),by simp [lu],hi.symm⟩) (by simp) rfl rfl rfl (fun i _ hi=>World.putObj_heap_other hi) (mW.refl h) (fun _ _ _ _=>rfl) ?_ rW ?_
 ·rintro i o' u (rfl | hi) hu
  ·rw [hno o'] at hu;cases hu
  ·rw [hst.fresh hi] at hu;cases hu
 ·intro e' he
  rw [rX he]
  refine ⟨fun c hc=>?_,World.putObj_heap_same hlt⟩
  simp only [lu,List.mem_singleton] at hc
  subst hc
  exact ⟨.inr ⟨_,hL,(l,0),by simp [lu],rfl⟩,by simpa using hlt,fun o' _=>hno o'⟩
theorem Jp {body:Code} {K:Exit→Act→World→Prop} (hAt:At B h0 Γ Λ F n a w) (h8:Λ 4998=some (WQ l r)) (hr:r.state = .ready)
  (hk:∀ w,At B h0 Γ (fun k=>bif Nat.beq 4998 k then some (WQ l (Qe r)) else Λ k) F n a w→body.qf (some l) P K a w):∃ w₂,(Instr.beginRound l).run P w = .ok () w₂∧body.qf (some l) P K a w₂:=by
 obtain ⟨h,L,hle,hst,sH,oq,hsz,hdf⟩:=hAt
 obtain ⟨e,hL,rfl⟩:=sH 4998 _ h8
 obtain ⟨hl,hst'⟩:=Oz hst hL (Qe r)
 refine ⟨_,run_beginRound hl hr,hk _ ⟨h,_,hle,hst',?_,oq,hsz,hdf⟩⟩
 intro k q hq
 cases hb:Nat.beq 4998 k with
 | true=>simp only [hb,cond_true] at hq;cases hq;rw [iT] at hb;subst hb;exact ⟨_,qG,rfl⟩
 | false =>
  simp only [hb,cond_false] at hq
  have n1:k≠4998:=fun x=>by rw [iT.2 x.symm] at hb;cases hb
  obtain ⟨e1,h2,h3⟩:=sH k q hq
  exact ⟨e1,by simp [set1,n1,h2],h3⟩
theorem retD {fn:Func} {R:Ending→World→Prop} {D:Nat} (hAt:At (B.d (mark D)) h0 Γ Λ F n a w) (h9:Λ 4999=some (MG D))
  (hk:∀ (a:Act) (w:World),At B h0 Γ (fun k=>bif Nat.beq 4999 k then none else Λ k) F n a w→B.df=[]→Hu P fn R .ret a w):B.df=[]→Hu P fn R .ret a w:=by
 intro hB
 obtain ⟨h,L,hle,hst,sH,oq,hsz,hdf⟩:=hAt
 obtain ⟨e,hL,rfl⟩:=sH 4999 _ h9
 obtain ⟨hcl,hok⟩:=hst.own (k:=Sum.inl 4999) hL
 have hD:w.heap[D]? = some (.deferred (some [])):=hok
 have hno:=fun o'=>(hcl (D,0) (by simp [nP])).2.2 o' (Nat.zero_le _)
 have hst':St B h (Sum.elim (fun k=>if k=4999 then none else L k) F) (w.putObj D (.deferred none)):=by
  refine hst.ofD.step (Sum.inl 4999) (fun i=>i=D) (fun i hi _=>⟨_,hL,(D,0),by simp [nP],hi.symm⟩) (by simp) rfl rfl rfl (fun i _ hi=>World.putObj_heap_other hi) (mW.refl h) (fun _ _ _ _=>rfl) ?_ ?_ ?_
  ·rintro i o' u (rfl | hi) hu
   ·rw [hno o'] at hu;cases hu
   ·rw [hst.fresh hi] at hu;cases hu
  ·intro k' e' hne he
   cases k' with
   | inr x=>exact he
   | inl k =>
    have:k≠4999:=fun x=>hne (by rw [x])
    simpa [this] using he
  ·intro e' he;simp at he
 have hdf':a.defers=[mark D]:=by rw [hdf];show mark D :: B.df=_;rw [hB]
 have:=hk { a with defers:=[] } (w.putObj D (.deferred none)) ⟨h,_,hle,hst',?_,fun s=>oq s,hsz,hB.symm⟩ hB
 ·rcases this with ⟨_,v,h1,h2⟩ | ⟨D',w',h1,_⟩
  ·exact .inr ⟨D,_,hdf',run_takeDeferred hD,v,h1,h2⟩
  ·cases h1
 ·intro k q hq
  cases hb:Nat.beq 4999 k with
  | true=>simp only [hb,cond_true] at hq;cases hq
  | false =>
   simp only [hb,cond_false] at hq
   have n1:k≠4999:=fun x=>by rw [iT.2 x.symm] at hb;cases hb
   obtain ⟨e1,h2,h3⟩:=sH k q hq
   exact ⟨e1,by simp [n1,h2],h3⟩
end
end Go.KB
namespace Go.KB
variable {P:Program}
def uM:List Nat→Bool
 | []=>true
 | k :: r=>!(has r k)&&uM r
def Ym:List (Nat×eu)→KE→Prop
 | (k,q) :: r,(k',e) :: es=>k'=k∧q undef e∧Ym r es
 | [],[]=>True
 | _,_=>False
theorem OA:∀ {l:KE} {k:Nat},has (l.map (·.1)) k=(CS l k).isSome:=by
 intro l
 induction l with
 | nil=>intro k;rfl
 | cons x r ih =>
  obtain ⟨k0,e⟩:=x
  intro k
  simp only [List.map_cons,has,CS]
  cases Nat.beq k0 k with
  | true=>rfl
  | false=>simpa using ih
theorem UU:∀ {l:KE},uM (l.map (·.1))=true→DI l=true:=by
 intro l
 induction l with
 | nil=>intro _;rfl
 | cons x r ih =>
  obtain ⟨k0,e⟩:=x
  intro h
  simp only [List.map_cons,uM,OA,Bool.and_eq_true] at h
  simp only [DI,Bool.and_eq_true]
  exact ⟨h.1,ih h.2⟩
theorem NC {Λ:Own} {L:Nat→Option iI} {a:Act} (sH:KO Λ L a):∀ {Qs:List (Nat×eu)},UR Λ Qs→GhL Qs→∃ kes:KE,kes.map (·.1)=Qs.map (·.1)∧Ym Qs kes∧∀ p ∈ kes,L p.1=some p.2:=by
 intro Qs
 induction Qs with
 | nil=>intro _ _;exact ⟨[],rfl,trivial,fun p hp=>by cases hp⟩
 | cons x r ih =>
  obtain ⟨k,q⟩:=x
  intro h hg
  obtain ⟨e,hL,hq⟩:=sH k q h.1
  obtain ⟨kes,h1,h2,h3⟩:=ih h.2 hg.2
  refine ⟨(k,e) :: kes,by simp [h1],⟨rfl,hg.1 _ _ _ hq,h2⟩,fun p hp=>?_⟩
  rcases List.mem_cons.1 hp with rfl | hp
  ·exact hL
  ·exact h3 p hp
theorem Qg:∀ {Qs:List (Nat×eu)} {kes:KE},Ym Qs kes→kes.map (·.1)=Qs.map (·.1):=by
 intro Qs
 induction Qs with
 | nil=>intro kes h;cases kes with
  | nil=>rfl
  | cons _ _=>exact h.elim
 | cons x r ih =>
  obtain ⟨k,q⟩:=x
  intro kes h
  cases kes with
  | nil=>exact h.elim
  | cons y es=>obtain ⟨k',e⟩:=y;obtain ⟨rfl,_,h3⟩:=h;simp [ih h3]
theorem TY:∀ {Qs:List (Nat×eu)} {kes:KE},Ym Qs kes→GhL Qs→∀ {k q},Cf Qs k=some q→∃ e,CS kes k=some e∧∀ v,q v e:=by
 intro Qs
 induction Qs with
 | nil=>intro kes _ _ k q h;cases h
 | cons x r ih =>
  obtain ⟨k0,q0⟩:=x
  intro kes h hg k q hq
  cases kes with
  | nil=>exact h.elim
  | cons y es =>
   obtain ⟨k',e⟩:=y
   obtain ⟨rfl,h2,h3⟩:=h
   simp only [Cf,TS] at hq
   simp only [CS]
   cases hb:Nat.beq k' k with
   | true=>rw [hb] at hq;cases hq;exact ⟨e,rfl,fun v=>hg.1 _ _ _ h2⟩
   | false=>rw [hb] at hq;exact ih h3 hg.2 hq
def IL:List (Nat×eu)→List Nat→List Po→List (Nat×eu)
 | _ :: r,g :: gs,.to q :: ps=>(g,q) :: IL r gs ps
 | (_,q) :: r,g :: gs,.keep :: ps=>(g,q) :: IL r gs ps
 | _ :: r,_ :: gs,.gone :: ps=>IL r gs ps
 | _,_,_=>[]
theorem WR {E:Nat→Option iI} {g:Nat→Value}:∀ {pre:List (Nat×eu)} {post:List Po} {gs:List Nat},DC pre post E (Qb g)→sZ [] [] pre post gs→CU pre gs=true→∀ {k q},Cf (IL pre gs post) k=some q →
  ∃ e k',AX pre gs k=some k'∧E k'=some e∧∀ v,q v e:=by
 intro pre
 induction pre with
 | nil=>intro post gs _ hk _ k q h;cases post <;> cases gs <;> first | exact hk.elim | cases h
 | cons x r ih =>
  obtain ⟨k0,q0⟩:=x
  intro post gs hp hk hc k q hq
  cases post with
  | nil=>cases gs <;> exact hk.elim
  | cons p ps=>cases gs with
   | nil=>exact hk.elim
   | cons g0 gs =>
    obtain ⟨h1,h2⟩:=hk
    simp only [CU,Bool.and_eq_true,Bool.not_eq_true'] at hc
    have tail:Cf (IL r gs ps) k=some q→∃ e k',AX ((k0,q0) :: r) (g0 :: gs) k=some k'∧E k'=some e∧∀ v,q v e:=fun hq=>by
     obtain ⟨e,k',h3,h4,h5⟩:=ih hp.2 h2 hc.2 hq
     have h6:=(Ov h3).1
     have:Nat.beq g0 k=false:=by
      rw [Bool.eq_false_iff,Ne,iT];intro e;subst e;rw [h6] at hc;exact absurd hc.1.1.1 (by simp)
     exact ⟨e,k',by simp only [AX,this,cond_false];exact h3,h4,h5⟩
    have one:∀ q':eu,Gh q'→(∃ e,E k0=some e∧q' (Qb g k0) e)→Cf ((g0,q') :: IL r gs ps) k=some q→∃ e k',AX ((k0,q0) :: r) (g0 :: gs) k=some k'∧E k'=some e∧∀ v,q v e:=by
     rintro q' hgh ⟨e,he,hqe⟩ hq
     simp only [Cf,TS] at hq
     cases hb:Nat.beq g0 k with
     | false=>rw [hb] at hq;exact tail hq
     | true =>
      rw [hb] at hq;cases hq
      exact ⟨e,k0,by simp only [AX,hb,cond_true],he,fun v=>hgh _ _ _ hqe⟩
    have hgh:Gh q0∧∀ q',p = .to q'→Gh q':=by
     rcases h1 with ⟨_,hg,hg'⟩ | ⟨_,x,hx,_⟩
     ·exact ⟨hg,hg'⟩
     ·simp at hx
    cases p with
    | gone=>exact tail hq
    | to q'=>exact one q' (hgh.2 q' rfl) hp.1 hq
    | keep=>exact one q0 hgh.1 hp.1 hq
theorem RX {l1 l2:List (Nat×eu)} {k:Nat}:Cf (l1 ++ l2) k=(match Cf l1 k with | some q=>some q | none=>Cf l2 k):=by
 induction l1 with
 | nil=>rfl
 | cons x r ih =>
  obtain ⟨k0,q⟩:=x
  simp only [Cf,List.cons_append,TS] at ih ⊢
  cases Nat.beq k0 k with
  | true=>rfl
  | false=>exact ih
theorem Ua:∀ {l:List (Nat×eu)} {k:Nat} {q:eu},Cf l k=some q→has (l.map (·.1)) k=true:=by
 intro l
 induction l with
 | nil=>intro k q h;cases h
 | cons x r ih =>
  obtain ⟨k0,q0⟩:=x
  intro k q h
  simp only [Cf,TS] at h
  simp only [List.map_cons,has,Bool.or_eq_true]
  cases hb:Nat.beq k0 k with
  | true=>exact .inl rfl
  | false=>rw [hb] at h;exact .inr (ih h)
theorem WS:∀ {pre:List (Nat×eu)} {gs:List Nat} {ps:List Po} {k:Nat},has ((IL pre gs ps).map (·.1)) k=true→has gs k=true:=by
 intro pre
 induction pre with
 | nil=>intro gs ps k h;cases gs <;> cases ps <;> cases h
 | cons x r ih =>
  obtain ⟨k0,q0⟩:=x
  intro gs ps k h
  cases gs with
  | nil=>cases ps <;> cases h
  | cons g gs=>cases ps with
   | nil=>cases h
   | cons p ps =>
    have two:∀ q:eu,has (((g,q) :: IL r gs ps).map (·.1)) k=true→has (g :: gs) k=true:=by
     intro q h
     simp only [List.map_cons,has,Bool.or_eq_true] at h
     simp only [has,Bool.or_eq_true]
     exact h.imp id ih
    cases p with
    | gone=>simp only [IL] at h;simp only [has,ih h,Bool.or_true]
    | to q=>exact two q h
    | keep=>exact two q0 h
def KU:List Nat→List aZ→List (Nat×aZ)
 | p :: ps,f :: fs=>(p,f) :: KU ps fs
 | _,_=>[]
def RY:List (Nat×aZ)→Bool
 | []=>true
 | (_,f) :: r=>f.dep.isNone&&RY r
theorem IQ:∀ {l:List (Nat×aZ)} {s:Nat},RY l=true→(Fa l s).dep=none:=by
 intro l
 induction l with
 | nil=>intro s _;rfl
 | cons x r ih =>
  obtain ⟨k,f⟩:=x
  intro s h
  simp only [RY,Bool.and_eq_true] at h
  simp only [Fa,Pv]
  cases hb:Nat.beq k s with
  | true =>
   rw [cond_true]
   cases hd:f.dep with
   | none=>rfl
   | some d=>rw [hd] at h;cases h.1
  | false=>exact ih h.2
theorem UW {h:H} {Γl:List (Nat×aZ)}:∀ {ps:List Nat} {A:List aZ} {vs:List Value} (tmps:Array Value),uM ps=true→(∀ p ∈ ps,p<tmps.size)→A.length=ps.length→vs.length=ps.length→pF A=true→(∀ s,(Fa Γl s).p h undef (tmps.getD s undef))→(∀ (j:Nat) (g:aZ) (v:Value),A[j]? = some g→vs[j]? = some v→g.p h undef v) →
  ∀ s,(Fa (KU ps A ++ Γl) s).p h undef (((ps.zip vs).foldl (fun t (p:Nat×Value)=>t.setIfInBounds p.1 p.2) tmps).getD s undef):=by
 intro ps
 induction ps with
 | nil=>intro A vs tmps _ _ hA _ _ hG _ s;cases A with
  | nil=>exact hG s
  | cons _ _=>simp at hA
 | cons p ps ih =>
  intro A vs tmps hn hlt hA hv hd hG hargs s
  cases A with
  | nil=>simp at hA
  | cons f A=>cases vs with
   | nil=>simp at hv
   | cons v vs =>
    simp only [uM,Bool.and_eq_true,Bool.not_eq_true'] at hn
    simp only [pF,Bool.and_eq_true] at hd
    -- the others first: p keeps its value
    have keep:∀ (ps:List Nat) (vs:List Value) (t:Array Value),has ps p=false→((ps.zip vs).foldl (fun t (p:Nat×Value)=>t.setIfInBounds p.1 p.2) t).getD p undef=t.getD p undef:=by
     intro ps
     induction ps with
     | nil=>intro vs t _;rfl
     | cons p' ps ih' =>
      intro vs t hh
      cases vs with
      | nil=>rfl
      | cons v' vs =>
       simp only [has,Bool.or_eq_false_iff] at hh
       simp only [List.zip_cons_cons,List.foldl_cons]
       rw [ih' vs _ hh.2]
       have:p'≠p:=fun e=>by rw [iT.2 e] at hh;cases hh.1
       simp [Array.getD_eq_getD_getElem?,Array.getElem?_setIfInBounds_ne this]
    simp only [List.zip_cons_cons,List.foldl_cons,KU,List.cons_append]
    show (bif Nat.beq p s then f else Fa (KU ps A ++ Γl) s).p h undef _
    cases hb:Nat.beq p s with
    | true =>
     rw [iT] at hb;subst hb
     rw [keep ps vs _ hn.1]
     have hp:=hlt p (by simp)
     have:(tmps.setIfInBounds p v).getD p undef=v:=by simp [Array.getD_eq_getD_getElem?,hp]
     rw [this]
     exact hargs 0 f v rfl rfl
    | false =>
     rw [cond_false]
     -- facts on p itself are not asked for any more
     have hps:p≠s:=fun e=>by rw [iT.2 e] at hb;cases hb
     have key:∀ (ps:List Nat) (A:List aZ) (vs:List Value) (t t':Array Value),t.size=t'.size→(∀ k,k≠p→t.getD k undef=t'.getD k undef)→∀ k,k≠p→((ps.zip vs).foldl (fun t (q:Nat×Value)=>t.setIfInBounds q.1 q.2) t).getD k undef=((ps.zip vs).foldl (fun t (q:Nat×Value)=>t.setIfInBounds q.1 q.2) t').getD k undef:=by
      intro ps
      induction ps with
      | nil=>intro _ vs t t' _ h k hk;exact h k hk
      | cons p' ps ih' =>
       intro A vs t t' hs h k hk
       cases vs with
       | nil=>exact h k hk
       | cons v' vs =>
        simp only [List.zip_cons_cons,List.foldl_cons]
        refine ih' A vs _ _ (by simp [hs]) (fun m hm=>?_) k hk
        by_cases hpm:p'=m
        ·subst hpm
         by_cases hlt:p'<t.size
         ·simp [Array.getD_eq_getD_getElem?,hlt,hs ▸ hlt]
         ·simp [Array.getD_eq_getD_getElem?,hlt,show ¬p'<t'.size by omega]
        ·have:=h m hm
         simpa [Array.getD_eq_getD_getElem?,Array.getElem?_setIfInBounds_ne hpm] using this
     rw [key ps A vs (tmps.setIfInBounds p v) tmps (by simp) (fun k hk=>by simp [Array.getD_eq_getD_getElem?,Array.getElem?_setIfInBounds_ne (Ne.symm hk)]) s (Ne.symm hps)]
     exact ih tmps hn.2 (fun q hq=>hlt q (List.mem_cons_of_mem _ hq)) (by simpa using hA) (by simpa using hv) hd.2 hG (fun j g u hg hu=>hargs (j+1) g u hg hu) s
theorem RZ {ps:List Nat}:∀ {vs:List Value} {t:Array Value},((ps.zip vs).foldl (fun t (p:Nat×Value)=>t.setIfInBounds p.1 p.2) t).size=t.size:=by
 induction ps with
 | nil=>intro vs t;rfl
 | cons p ps ih=>intro vs t;cases vs with
  | nil=>rfl
  | cons v vs=>simp only [List.zip_cons_cons,List.foldl_cons];rw [ih];simp
theorem ND:∀ {js:List Exit} {k:Nat},TW js=true→k<js.length→∃ c,YO (js.getD k .normal)=some c:=by
 intro js
 induction js with
 | nil=>intro k _ h;cases h
 | cons e r ih =>
  intro k h hk
  simp only [TW,Bool.and_eq_true] at h
  cases k with
  | zero=>exact Option.isSome_iff_exists.1 h.1
  | succ k=>simpa using ih h.2 (by simpa using hk)
theorem YP {e:Exit} {c:Code} {Q:Exit→Act→World→Prop} {a:Act} {w:World} (hc:YO e=some c) (hq:Q e a w):c.wpIn (Me none) 0 P Q a w:=by
 cases e <;> cases hc
 ·exact wpIn_exit hq
 ·exact wpIn_ret hq
section
variable {κ:Type} {B:Base} {h0:H} {Λ:Own} {F:κ→Option iI} {n:Nat} {a:Act} {w:World}
theorem Ns {S ι:Type} {gf:FuncId} {fn:Func} {C:List aZ} {t:Nat} {ps:List Nat} {assign body:Code} {Γl:List (Nat×aZ)} {Qq:S→List (Nat×eu)} {A:ι→List aZ} {g:S→ι→Option (S×Option Nat)} {js:List Exit} {s0 s:S} {j:Option Nat}
  {GZ:List (Nat×eu)} {G5:List Po} {gI ks:List Nat} {Qx:Exit→Act→World→Prop}
  (hAt:At B h0 (Fa Γl) Λ F n a w) (ht:Fa Γl t=qy gf C) (hf:P.funcs[gf]? = some fn) (hbd:rf fn=true)
  (hit:∀ YE:S×Option Nat→iI→Prop,lY P gf (Pn P A YE (yl g js.length) :: C) ((5000,yE YE (s0,none)) :: GZ) (Po.to (yE YE (s,j)) :: G5) none Yy)
  (hQ0:UR Λ (Qq s0)) (hks:∀ s,(Qq s).map (·.1)=ks) (hG:∀ s,GhL (Qq s)) (hI:UR Λ (Qa GZ gI)) (hIk:sZ [] [] GZ G5 gI)
  (tN:(uM (4997 :: 4998 :: 4999 :: (ks ++ gI))&&RY Γl&&uM ps&&ps.all (fun p=>Nat.blt p n)&&TW js)=true) (hcc:∀ q,CU ((5000,q) :: GZ) (4997 :: gI)=true) (hA:∀ i,(A i).length=ps.length∧pF (A i)=true)
  (hround:∀ (s:S) (i:ι) (s':S) (j:Option Nat),g s i=some (s',j)→∀ (κ:Type) (B:Base) (h0:H) (F:κ→Option iI) (l:Nat) (r:Loop) (D:Nat) (a:Act) (w:World),r.state = .ready→At B h0 (Fa (KU ps (A i) ++ Γl)) (Cf ((4998,WQ l r) :: (4999,MG D) :: Qq s)) F n a w →
   assign.qf (some l) P (Exit.then (fun a₁ w₁=>∃ w₂,(Instr.beginRound l).run P w₁ = .ok () w₂∧body.qf (some l) P (RoundP n B h0 F l r D (Qq s') js j) a₁ w₂) (fun _ _ _=>False)) a w)
  (hdone:∀ (D:Nat) (a:Act) (w:World),At (B.d (mark D)) h0 (Fa Γl) (Cf ((4999,MG D) :: (Qq s ++ IL GZ gI G5))) F n a w→Qx (xOf js j) a w):(Code.rangeFunc (.tmp t) ps.toArray assign body).qf none P Qx a w:=by
 simp only [Bool.and_eq_true] at tN
 obtain ⟨⟨⟨⟨hnd,hdG⟩,hnp⟩,hpl⟩,hjs⟩:=tN
 simp only [rf,Bool.and_eq_true,Bool.not_eq_true'] at hbd
 have hbody:fn.body≠none:=by
  intro hx;rw [hx] at hbd;cases hbd.1
 have hname:fn.name ≠ "runtime.NumGoroutine":=by simpa using hbd.2
 obtain ⟨h,L,hle,hst,sH,oq,hsz,hdf⟩:=hAt
 have htv:=oq t
 rw [ht] at htv
 obtain ⟨cap,hv,hcap⟩:=htv
 have hv:a.eval (.tmp t) = .func (.func gf) #[] cap.toArray:=hv
 refine wpIn_rangeFunc (F:=Me none) (n:=0) ?_
 intro fnid _
 obtain ⟨wM,KW⟩:∃ wM:Loop,wM={ state:=.ready,pending:=none,fn:=fnid,tmps:=a.tmps,params:=ps.toArray,assign,body,defers:=w.heap.size }:=⟨_,rfl⟩
 obtain ⟨D,hD⟩:∃ D,w.heap.size=D:=⟨_,rfl⟩
 obtain ⟨l,hl⟩:∃ l,w.heap.size+1=l:=⟨_,rfl⟩
 refine ⟨w.heap.size+1,[mark w.heap.size],(w.alloc (.deferred (some []))).alloc (.loop wM),{ target:=.fn (.func gf) cap.toArray,args:=#[.func (.yield (w.heap.size+1)) #[] #[]] },(w.alloc (.deferred (some []))).alloc (.loop wM),gf,
  #[.func (.yield (w.heap.size+1)) #[] #[]] ++ cap.toArray,(w.alloc (.deferred (some []))).alloc (.loop wM),by rw [KW];exact run_enterLoop_outer _ _ _ _ _,?_,fun _ _=>trivial,?_,fun hh=>(by cases hh),IU.2 ?_⟩
 ·simp only [resolve,hv]
  simp [go_sem]
 ·simp [invoke,callFunc,hf,hname,hbody]
 -- the keys
 have hn3:has (ks ++ gI) 4997=false∧has (ks ++ gI) 4998=false∧has (ks ++ gI) 4999=false∧uM (ks ++ gI)=true:=by
  simp only [uM,has,Bool.and_eq_true,Bool.not_eq_true',Bool.or_eq_false_iff] at hnd
  exact ⟨hnd.1.2.2,hnd.2.1.2,hnd.2.2.1,hnd.2.2.2⟩
 have JV:∀ (x y:List Nat) (k:Nat),has (x ++ y) k=(has x k||has y k):=by
  intro x y k
  induction x with
  | nil=>rfl
  | cons z x ih=>simp only [List.cons_append,has,ih,Bool.or_assoc]
 have hdisj:∀ k,has ks k=true→has gI k=true→False:=by
  have:∀ (x y:List Nat),uM (x ++ y)=true→∀ k,has x k=true→has y k=true→False:=by
   intro x
   induction x with
   | nil=>intro y _ k h;cases h
   | cons z x ih =>
    intro y hn k h1 h2
    simp only [List.cons_append,uM,Bool.and_eq_true,Bool.not_eq_true'] at hn
    simp only [has,Bool.or_eq_true] at h1
    rcases h1 with h1 | h1
    ·rw [iT] at h1;subst h1
     rw [JV,h2,Bool.or_true] at hn;cases hn.1
    ·exact ih y hn.2 k h1 h2
  exact this ks gI hn3.2.2.2
 have Si:∀ (x y:List Nat),uM (x ++ y)=true→uM x=true:=by
  intro x
  induction x with
  | nil=>intro y _;rfl
  | cons z x ih =>
   intro y hn
   simp only [List.cons_append,uM,Bool.and_eq_true,Bool.not_eq_true'] at hn
   rw [JV,Bool.or_eq_false_iff] at hn
   simp only [uM,Bool.and_eq_true,Bool.not_eq_true']
   exact ⟨hn.1.1,ih y hn.2⟩
 have UX:has ks 4997=false∧has ks 4998=false∧has ks 4999=false∧uM ks=true:=by
  have h1:=hn3.1;have h2:=hn3.2.1;have h3:=hn3.2.2.1
  rw [JV,Bool.or_eq_false_iff] at h1 h2 h3
  exact ⟨h1.1,h2.1,h3.1,Si _ _ hn3.2.2.2⟩
 have hgI':has gI 4997=false∧has gI 4998=false∧has gI 4999=false:=by
  have h1:=hn3.1;have h2:=hn3.2.1;have h3:=hn3.2.2.1
  rw [JV,Bool.or_eq_false_iff] at h1 h2 h3
  exact ⟨h1.2,h2.2,h3.2⟩
 have nd:∀ {s:S} {kes:KE} (r:Loop),Ym (Qq s) kes→DI ((4998,lu l r) :: (4999,nP D) :: kes)=true:=by
  intro s kes r hq
  refine UU ?_
  have h1:=(Qg hq).trans (hks s)
  simp only [List.map_cons,h1,uM,has,UX.2.1,UX.2.2.1,UX.2.2.2]
  rfl
 -- the state of the loop as an entry
 obtain ⟨yc,EQ⟩:∃ yc:Option Nat→Loop,yc=fun x=>match x with | none=>wM | some k=>{ wM with state:=.done,pending:=YO (js.getD k .normal) }:=⟨_,rfl⟩
 obtain ⟨YE,hYE⟩:∃ YE:S×Option Nat→iI→Prop,YE=fun x e=>(∀ k,x.2=some k→k<js.length)∧∃ kes,Ym (Qq x.1) kes∧Ee ((4998,lu l (yc x.2)) :: (4999,nP D) :: kes)∧e=sW ((4998,lu l (yc x.2)) :: (4999,nP D) :: kes):=⟨_,rfl⟩
 have lkQ:∀ {s:S} {kes:KE} (r:Loop) {k:Nat},Ym (Qq s) kes→has ks k=false→k≠4998→k≠4999→CS ((4998,lu l r) :: (4999,nP D) :: kes) k=none:=by
  intro s kes r k hq hk h8 h9
  have h1:=OA (l:=kes) (k:=k)
  rw [(Qg hq).trans (hks s),hk] at h1
  have n8:Nat.beq 4998 k=false:=by rw [Bool.eq_false_iff,Ne,iT];exact fun x=>h8 x.symm
  have n9:Nat.beq 4999 k=false:=by rw [Bool.eq_false_iff,Ne,iT];exact fun x=>h9 x.symm
  simp only [CS,n8,n9,cond_false]
  cases hl:CS kes k with
  | none=>rfl
  | some e=>rw [hl] at h1;cases h1
 have lkQ2:∀ {kes:KE} (r:Loop) {k:Nat},k≠4998→k≠4999→CS ((4998,lu l r) :: (4999,nP D) :: kes) k=CS kes k:=by
  intro kes r k h8 h9
  have n8:Nat.beq 4998 k=false:=by rw [Bool.eq_false_iff,Ne,iT];exact fun x=>h8 x.symm
  have n9:Nat.beq 4999 k=false:=by rw [Bool.eq_false_iff,Ne,iT];exact fun x=>h9 x.symm
  simp only [CS,n8,n9,cond_false]
 have ne8:∀ {k:Nat},has ks k=true→k≠4997∧k≠4998∧k≠4999:=fun {k} hk=>⟨fun e=>(by rw [e,UX.1] at hk;cases hk),fun e=>(by rw [e,UX.2.1] at hk;cases hk),fun e=>(by rw [e,UX.2.2.1] at hk;cases hk)⟩
 have ne8I:∀ {k:Nat},has gI k=true→k≠4997∧k≠4998∧k≠4999:=fun {k} hk=>⟨fun e=>(by rw [e,hgI'.1] at hk;cases hk),fun e=>(by rw [e,hgI'.2.1] at hk;cases hk),fun e=>(by rw [e,hgI'.2.2] at hk;cases hk)⟩
 -- the start
 have hst1:=hst.Aa (.deferred (some [])) 4999 (nP D) (by intro c hc;simp [nP] at hc;rw [hc,hD]) (by show World.mem _ D=_;rw [← hD];exact Ac _ _)
 have hst2:=hst1.Aa (.loop wM) 4998 (lu l wM) (by intro c hc;simp [lu] at hc;rw [hc,← hl];simp) (by show World.mem _ l=_;rw [← hl];have:=Ac (w.alloc (.deferred (some []))) (.loop wM);rwa [World.size_alloc] at this)
 obtain ⟨kes,hk1,hk2,hk3⟩:=NC sH hQ0 (hG s0)
 have hkm:∀ p ∈ kes,has ks p.1=true:=by
  intro p hp
  have:=OA (l:=kes) (k:=p.1)
  rw [hk1.trans (hks s0),Hy (k:=p.1) (e:=p.2) hp] at this
  exact this
 have hL2:∀ p ∈ ((4998,lu l wM) :: (4999,nP D) :: kes),(set1 (set1 L 4999 (nP D)) 4998 (lu l wM)) p.1=some p.2:=by
  intro p hp
  rcases List.mem_cons.1 hp with rfl | hp
  ·simp [set1]
  ·rcases List.mem_cons.1 hp with rfl | hp
   ·simp [set1]
   ·have h1:=ne8 (hkm p hp)
    simp [set1,h1.2.1,h1.2.2,hk3 p hp]
 have hdj:=Oq hst2 hL2 (nd wM hk2)
 have hst3:=hst2.sW 4997 hL2
 have hcap':(#[.func (.yield (w.heap.size+1)) #[] #[]] ++ cap.toArray:Array Value)=(Value.func (.yield l) #[] #[] :: cap).toArray:=by rw [← hl];apply Array.ext';simp
 rw [hcap']
 -- a round
 have hyl:YlOk P A YE (yl g js.length) h l:=by
  intro i x x' b hY κ' B' L' h1 w1 vs e hle1 hr1 hye hlen hargs
  subst hYE
  obtain ⟨xs,xj⟩:=x
  have hxj:xj=none:=by
   cases xj with
   | none=>rfl
   | some _=>cases hY
  subst hxj
  obtain ⟨_,kes1,hq1,hd1,rfl⟩:=hye
  have hro:yc none=wM:=by rw [EQ]
  simp only [hro] at hd1 hr1
  cases hg:g xs i with
  | none=>simp only [yl,hg] at hY;cases hY
  | some y =>
   obtain ⟨s',j'⟩:=y
   have hjb:x'=(s',j')∧b=j'.isNone∧∀ k,j'=some k→k<js.length:=by
    simp only [yl,hg] at hY
    cases j' with
    | none=>cases hY;exact ⟨rfl,rfl,fun k hk=>(by cases hk)⟩
    | some k =>
     simp only [] at hY
     cases hb:Nat.blt k js.length with
     | false=>rw [hb] at hY;cases hY
     | true =>
      rw [hb] at hY;cases hY
      rw [Nat.blt_eq] at hb
      exact ⟨rfl,rfl,fun k' hk=>(by cases hk;exact hb)⟩
   obtain ⟨rfl,rfl,hjlt⟩:=hjb
   have hr2:St B' h1 (Sum.elim (fun k:Nat=>if k=4997 then some (sW ((4998,lu l wM) :: (4999,nP D) :: kes1)) else none) L') w1:=by
    refine hr1.BK (fun k=>match k with | .inl _=>.inl () | .inr x=>.inr x) ?_ ?_
    ·intro k e he
     cases k with
     | inr x=>exact he
     | inl k =>
      simp only [Sum.elim_inl] at he
      split at he
      ·exact he
      ·cases he
    ·intro k k' e e' hk hk' hne
     cases k with
     | inr x=>cases k' with
      | inr x'=>intro he;exact hne (by rw [Sum.inr.inj he])
      | inl k'=>intro he;cases he
     | inl k=>cases k' with
      | inr x'=>intro he;cases he
      | inl k' =>
       intro _
       simp only [Sum.elim_inl] at hk hk'
       split at hk
       ·split at hk'
        ·rename_i h1 h2;exact hne (by rw [h1,h2])
        ·cases hk'
       ·cases hk
   have hr3:=hr2.splitK (l:=(4998,lu l wM) :: (4999,nP D) :: kes1) (g:=4997) (by simp) hd1
   have hl1:w1.heap[l]? = some (.loop wM):=(hr3.own (k:=Sum.inl 4998) (e:=lu l wM) rfl).2
   refine ⟨fnid,_,assign,body,by have:=run_yield (P:=P) (args:=vs.toArray) hl1 (by rw [KW];simp [← hlen,(hA i).1]);rw [KW] at this;exact this,roundIn_of_wpIn trivial ?_⟩
   have hfold:∀ (t:Array Value),(ps.toArray.zip vs.toArray).foldl (fun tmps (x:Nat×Value)=>tmps.setIfInBounds x.1 x.2) t=(ps.zip vs).foldl (fun t (p:Nat×Value)=>t.setIfInBounds p.1 p.2) t:=by
    intro t
    rw [← Array.foldl_toList]
    congr 1
    simp
   have hact:At B'.e h1 (Fa (KU ps (A i) ++ Γl)) (Cf ((4998,WQ l wM) :: (4999,MG D) :: Qq xs)) L' n { tmps:=(ps.toArray.zip vs.toArray).foldl (fun tmps (x:Nat×Value)=>tmps.setIfInBounds x.1 x.2) a.tmps,defers:=[] } w1:=by
    refine ⟨h1,_,mW.refl h1,hr3.toE,?_,?_,?_,rfl⟩
    ·intro k q hq
     simp only [Cf,TS] at hq
     cases hb8:Nat.beq 4998 k with
     | true=>rw [hb8] at hq;cases hq;rw [iT] at hb8;subst hb8;exact ⟨_,rfl,rfl⟩
     | false =>
      rw [hb8] at hq
      cases EF:Nat.beq 4999 k with
      | true=>rw [EF] at hq;cases hq;rw [iT] at EF;subst EF;exact ⟨_,rfl,rfl⟩
      | false =>
       rw [EF] at hq
       obtain ⟨e,he,hqv⟩:=TY hq1 (hG xs) hq
       refine ⟨e,?_,hqv _⟩
       have n8:k≠4998:=fun x=>by rw [iT.2 x.symm] at hb8;cases hb8
       have n9:k≠4999:=fun x=>by rw [iT.2 x.symm] at EF;cases EF
       simp only [lkQ2 wM n8 n9,he]
    ·intro s1
     have:=UW (h:=h1) (ps:=ps) (A:=A i) (vs:=vs) a.tmps hnp (fun p hp=>by have:=List.all_eq_true.1 hpl p hp;rw [Nat.blt_eq] at this;rw [hsz];exact this) (hA i).1 (by rw [← hlen,(hA i).1]) (hA i).2 (fun s2=>by
      have h2:=oq s2
      unfold aZ.at aZ.dv at h2
      rw [IQ hdG] at h2
      exact (Fa Γl s2).mono hle1 h2) hargs s1
     unfold aZ.at aZ.dv
     have hdp:(Fa (KU ps (A i) ++ Γl) s1).dep=none:=by
      have:RY (KU ps (A i) ++ Γl)=true:=by
       have:∀ (ps:List Nat) (A:List aZ),pF A=true→RY (KU ps A ++ Γl)=true:=by
        intro ps
        induction ps with
        | nil=>intro A _;exact hdG
        | cons p ps ih =>
         intro A hA
         cases A with
         | nil=>exact hdG
         | cons f A =>
          simp only [pF,Bool.and_eq_true] at hA
          simp only [KU,List.cons_append,RY,Bool.and_eq_true]
          exact ⟨hA.1,ih A hA.2⟩
       exact this ps (A i) (hA i).2
      exact IQ this
     rw [hdp]
     show (Fa (KU ps (A i) ++ Γl) s1).p h1 undef (Array.getD _ s1 undef)
     rw [hfold];exact this
    ·show Array.size _=n
     rw [hfold,RZ];exact hsz
   refine wpIn_mono (hround xs i s' j' hg κ' B'.e h1 L' l wM D _ w1 (by rw [KW]) hact) ?_
   intro e1 a1 w2 hq2
   cases e1 <;> first | exact hq2.elim | skip
   obtain ⟨w3,hb3,hbd3⟩:=hq2
   refine ⟨w3,hb3,wpIn_mono hbd3 ?_⟩
   rintro e2 a2 w4 ⟨hx2,Γ2,Λ2,⟨h2,L2,hle2,hst4,hOw2,hsat2,_,_⟩,h8,h9,hQ2⟩
   obtain ⟨e8,hL8,rfl⟩:=hOw2 4998 _ h8
   obtain ⟨e9,hL9,rfl⟩:=hOw2 4999 _ h9
   obtain ⟨WT,hk21,hk22,hk23⟩:=NC hOw2 hQ2 (hG s')
   have hkm2:∀ p ∈ WT,has ks p.1=true:=by
    intro p hp
    have:=OA (l:=WT) (k:=p.1)
    rw [hk21.trans (hks s'),Hy (k:=p.1) (e:=p.2) hp] at this
    exact this
   have fin:∀ (jump:Option Code) (r':Loop),r'={ Qe wM with state:=if jump.isNone then .ready else .done,pending:=jump }→yc j'=r'→jump.isNone=j'.isNone →
     ∃ v w',(Instr.endRound l jump).run P w4 = .ok v w'∧∃ h'' e',(Ending.returned v) = .returned (.bool j'.isNone)∧mW h1 h''∧St B' h'' (Sum.elim (fun _:Unit=>some e') L') w'∧((∀ k,(s',j').2=some k→k<js.length)∧∃ kes,Ym (Qq (s',j').1) kes∧Ee ((4998,lu l (yc (s',j').2)) :: (4999,nP D) :: kes)∧e'=sW ((4998,lu l (yc (s',j').2)) :: (4999,nP D) :: kes)):=by
    intro jump r' hr' hro' hji
    obtain ⟨hl4,hst5⟩:=Oz hst4 hL8 r'
    have hL5:∀ p ∈ ((4998,lu l r') :: (4999,nP D) :: WT),(set1 L2 4998 (lu l r')) p.1=some p.2:=by
     intro p hp
     rcases List.mem_cons.1 hp with rfl | hp
     ·simp [set1]
     ·rcases List.mem_cons.1 hp with rfl | hp
      ·simp [set1,hL9]
      ·have h1:=ne8 (hkm2 p hp)
       simp [set1,h1.2.1,hk23 p hp]
    have hdj5:=Oq hst5 hL5 (nd r' hk22)
    have hst6:=(hst5.sW 4997 hL5).one 4997 (e:=sW ((4998,lu l r') :: (4999,nP D) :: WT)) (by simp)
    refine ⟨.bool jump.isNone,w4.putObj l (.loop r'),by have:=run_endRound (P:=P) jump hl4;rw [hr'];exact this,h2,_,by rw [hji],hle2,hst6.ofE,hjlt,WT,hk22,?_,?_⟩
    ·show Ee ((4998,lu l (yc j')) :: _);rw [hro'];exact hdj5
    ·show _=sW ((4998,lu l (yc j')) :: _);rw [hro']
   cases j' with
   | none =>
    have:e2 = .normal:=hx2.symm
    subst this
    obtain ⟨v,w5,hrun,hR⟩:=fin none wM (by rw [KW];rfl) (by rw [EQ]) rfl
    exact ⟨v,w5,hrun,hR⟩
   | some k =>
    have hx2:js.getD k .normal=e2:=hx2
    obtain ⟨c,hc⟩:=ND hjs (hjlt k rfl)
    obtain ⟨v,w5,hrun,hR⟩:=fin (some c) { Qe wM with state:=.done,pending:=some c } rfl (by rw [EQ];simp only [];rw [hc];rfl) rfl
    rw [hx2] at hc
    cases e2 <;> cases hc
    ·exact ⟨v,w5,hrun,hR⟩
    ·exact ⟨v,w5,hrun,hR⟩
 -- the call
 have hpre:KP ((5000,yE YE (s0,none)) :: GZ) (fun k=>(toC ((5000,yE YE (s0,none)) :: GZ) (4997 :: gI) k).bind (fun k=>if k=4997 then some (sW ((4998,lu l wM) :: (4999,nP D) :: kes)) else if (CS ((4998,lu l wM) :: (4999,nP D) :: kes) k).isSome then none else (set1 (set1 L 4999 (nP D)) 4998 (lu l wM)) k)) (Qb fun k=>(Value.func (.yield l) #[] #[] :: cap).getD k undef):=by
  refine WO (N:=[]) (xs:=[]) (cap:=Value.func (.yield l) #[] #[] :: cap) (h:=h) (a:=a) (post:=Po.to (yE YE (s,j)) :: G5) (L:=fun k=>if k=4997 then some (sW ((4998,lu l wM) :: (4999,nP D) :: kes)) else if (CS ((4998,lu l wM) :: (4999,nP D) :: kes) k).isSome then none else (set1 (set1 L 4999 (nP D)) 4998 (lu l wM)) k) trivial (sZ.gh rfl Gh.yE (fun q hq=>by cases hq;exact Gh.yE) hIk) ⟨⟨_,rfl,?_⟩,?_⟩ (fun k gg hk=>by rw [hk];rfl) (hcc _)
  ·subst hYE
   exact ⟨fun k hk=>(by cases hk),kes,hk2,(by rw [EQ];exact hdj),(by rw [EQ])⟩
  ·have:∀ (pre:List (Nat×eu)) (gs:List Nat),UR Λ (Qa pre gs)→(∀ k,has gs k=true→has gI k=true)→RS (Qa pre gs) (fun k=>if k=4997 then some (sW ((4998,lu l wM) :: (4999,nP D) :: kes)) else if (CS ((4998,lu l wM) :: (4999,nP D) :: kes) k).isSome then none else (set1 (set1 L 4999 (nP D)) 4998 (lu l wM)) k) a:=by
    intro pre
    induction pre with
    | nil=>intro gs _ _;trivial
    | cons x r ih =>
     obtain ⟨k0,q0⟩:=x
     intro gs hq hm
     cases gs with
     | nil=>trivial
     | cons g0 gs =>
      refine ⟨?_,ih gs hq.2 (fun k hk=>hm k (by simp only [has,hk,Bool.or_true]))⟩
      obtain ⟨e,he,hqe⟩:=sH g0 q0 hq.1
      have hg0:has gI g0=true:=hm g0 (by simp only [has,Nat.beq_refl,Bool.true_or])
      have hne:=ne8I hg0
      have hk0:has ks g0=false:=by
       cases hx:has ks g0 with
       | false=>rfl
       | true=>exact (hdisj g0 hx hg0).elim
      refine ⟨e,?_,hqe⟩
      simp only [lkQ wM hk2 hk0 hne.2.1 hne.2.2]
      simp [hne.1,set1,hne.2.1,hne.2.2,he]
   exact this GZ gI hI (fun k hk=>hk)
 refine (callsG (hit YE) (hcc _) hst3 (by simp [hcap.1]) hpre ?_).mono ?_
 ·intro j1 g1 u hg1 hu
  cases j1 with
  | zero=>cases hg1;cases hu;exact ⟨l,rfl,hyl⟩
  | succ j1=>exact hcap.2 j1 g1 u (by simpa using hg1) (by simpa using hu)
 rintro en w5 ⟨v,h5,E5,rfl,hle5,hst5,hpost,_⟩
 obtain ⟨⟨e5,hE5,hye5⟩,hpostI⟩:=hpost
 have hye5:YE (s,j) e5:=hye5
 subst hYE
 obtain ⟨hjlt,kes5,hq5,hd5,rfl⟩:=hye5
 have h47:AX ((5000,yE (fun x e=>(∀ k,x.2=some k→k<js.length)∧∃ kes,Ym (Qq x.1) kes∧Ee ((4998,lu l (yc x.2)) :: (4999,nP D) :: kes)∧e=sW ((4998,lu l (yc x.2)) :: (4999,nP D) :: kes)) (s0,none)) :: GZ) (4997 :: gI) 4997=some 5000:=rfl
 have hst6:=hst5.splitK (l:=(4998,lu l (yc j)) :: (4999,nP D) :: kes5) (g:=4997) (by simp only [h47];exact hE5) hd5
 obtain ⟨Oc,hst7⟩:=Oz hst6 (k:=4998) (l:=l) (r:=yc j) rfl { yc j with state:=.exhausted }
 have hbusy:(yc j).state ≠ .busy:=by
  rw [EQ]
  cases j with
  | none=>rw [KW];simp
  | some k=>simp
 have hend:=run_endLoop (P:=P) Oc hbusy
 have hAtE:At (B.d (mark D)) h0 (Fa Γl) (Cf ((4999,MG D) :: (Qq s ++ IL GZ gI G5))) F n { a with defers:=[mark w.heap.size] ++ a.defers } (w5.putObj l (.loop { yc j with state:=.exhausted })):=by
  refine ⟨h5,_,hle.trans hle5,hst7.toD,?_,?_,hsz,by rw [hD,hdf];rfl⟩
  ·intro k q hq
   simp only [Cf,TS] at hq
   cases EF:Nat.beq 4999 k with
   | true=>rw [EF] at hq;cases hq;rw [iT] at EF;subst EF;exact ⟨nP D,rfl,rfl⟩
   | false =>
    rw [EF,cond_false] at hq
    have hq:Cf (Qq s ++ IL GZ gI G5) k=some q:=hq
    rw [RX] at hq
    cases hm:Cf (Qq s) k with
    | some q1 =>
     rw [hm] at hq;cases hq
     have hhk:=Ua hm
     rw [hks s] at hhk
     have hne:=ne8 hhk
     obtain ⟨e,he,hqv⟩:=TY hq5 (hG s) hm
     refine ⟨e,?_,hqv _⟩
     simp only [set1,hne.2.1,if_false,lkQ2 _ hne.2.1 hne.2.2,he]
    | none =>
     rw [hm] at hq
     have hq:Cf (IL GZ gI G5) k=some q:=hq
     have hgk:=WS (Ua hq)
     have hne:=ne8I hgk
     have hk0:has ks k=false:=by
      cases hx:has ks k with
      | false=>rfl
      | true=>exact (hdisj k hx hgk).elim
     have KX:=hcc (yE (fun x e=>(∀ k,x.2=some k→k<js.length)∧∃ kes,Ym (Qq x.1) kes∧Ee ((4998,lu l (yc x.2)) :: (4999,nP D) :: kes)∧e=sW ((4998,lu l (yc x.2)) :: (4999,nP D) :: kes)) (s0,none))
     simp only [CU,Bool.and_eq_true] at KX
     obtain ⟨e,k',h1,h2,h3⟩:=WR hpostI hIk KX.2 hq
     refine ⟨e,?_,h3 _⟩
     have n7:Nat.beq 4997 k=false:=by rw [Bool.eq_false_iff,Ne,iT];exact fun x=>hne.1 x.symm
     simp only [set1,hne.2.1,if_false,lkQ _ hq5 hk0 hne.2.1 hne.2.2,hne.1,AX,n7,cond_false,h1,h2]
  ·intro s1
   have h2:=(Fa Γl s1).mono hle5 (oq s1)
   unfold aZ.at aZ.dv at h2 ⊢
   rw [IQ hdG] at h2 ⊢
   exact h2
 rw [hl]
 cases j with
 | none=>exact ⟨none,_,(by rw [hend];congr 1;rw [EQ,KW]),hdone D _ _ hAtE⟩
 | some k =>
  obtain ⟨c,hc⟩:=ND hjs (hjlt k rfl)
  exact ⟨some c,_,(by rw [hend];congr 1;rw [EQ];exact hc),YP hc (hdone D _ _ hAtE)⟩
end
end Go.KB
