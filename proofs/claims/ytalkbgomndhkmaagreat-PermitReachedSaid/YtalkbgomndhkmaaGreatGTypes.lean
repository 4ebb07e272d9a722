/- Go's types as Lean types. Printed by a program. No condition. -/
import Derived.Test.YtalkbgomndhkmaaGreatKZf
namespace Go.KB
abbrev r_i8:Rep Int:=Rep.int .i8
abbrev r_i16:Rep Int:=Rep.int .i16
abbrev r_i32:Rep Int:=Rep.int .i32
abbrev iV:Rep Int:=Rep.int .i64
abbrev r_u8:Rep Int:=Rep.int .u8
abbrev r_u16:Rep Int:=Rep.int .u16
abbrev r_u32:Rep Int:=Rep.int .u32
abbrev r_u64:Rep Int:=Rep.int .u64
structure bV where
  Name:Str
  dW:Bool
  Next:(List Str)
def bV.rep:Rep bV:=Rep.wQ (Rep.prod Rep.str (Rep.prod Rep.bool (Rep.prod (Rep.slice Rep.str) Rep.unit))) (fun s=>(s.Name,(s.dW,(s.Next,())))) (fun t=>⟨t.1,t.2.1,t.2.2.1⟩) (fun _=>rfl)
def bV.ok (y:bV):Prop:=gS y.Name∧(fun _=>True) y.dW∧(gL gS) y.Next∧True
theorem bV.l0:Lens bV.rep Rep.str 0 (fun x=>x.Name) (fun x y=>{ x with Name:=y }):=(Lens.wQ _ _ _ _).comp (Lens.fst _ _)
theorem bV.l1:Lens bV.rep Rep.bool 1 (fun x=>x.dW) (fun x y=>{ x with dW:=y }):=(Lens.wQ _ _ _ _).comp ((Lens.snd _ _).comp (Lens.fst _ _))
theorem bV.l2:Lens bV.rep (Rep.slice Rep.str) 2 (fun x=>x.Next) (fun x y=>{ x with Next:=y }):=(Lens.wQ _ _ _ _).comp ((Lens.snd _ _).comp ((Lens.snd _ _).comp (Lens.fst _ _)))
structure bF where
  A:Int
  B:Int
  Reach:Int
def bF.rep:Rep bF:=Rep.wQ (Rep.prod iV (Rep.prod iV (Rep.prod iV Rep.unit))) (fun s=>(s.A,(s.B,(s.Reach,())))) (fun t=>⟨t.1,t.2.1,t.2.2.1⟩) (fun _=>rfl)
def bF.ok (y:bF):Prop:=(gI .i64) y.A∧(gI .i64) y.B∧(gI .i64) y.Reach∧True
theorem bF.l0:Lens bF.rep iV 0 (fun x=>x.A) (fun x y=>{ x with A:=y }):=(Lens.wQ _ _ _ _).comp (Lens.fst _ _)
theorem bF.l1:Lens bF.rep iV 1 (fun x=>x.B) (fun x y=>{ x with B:=y }):=(Lens.wQ _ _ _ _).comp ((Lens.snd _ _).comp (Lens.fst _ _))
theorem bF.l2:Lens bF.rep iV 2 (fun x=>x.Reach) (fun x y=>{ x with Reach:=y }):=(Lens.wQ _ _ _ _).comp ((Lens.snd _ _).comp ((Lens.snd _ _).comp (Lens.fst _ _)))
structure aA where
  Name:Str
  Kind:Int
  Space:Str
  From:Int
  To:Int
  Locks:(List Str)
def aA.rep:Rep aA:=Rep.wQ (Rep.prod Rep.str (Rep.prod iV (Rep.prod Rep.str (Rep.prod iV (Rep.prod iV (Rep.prod (Rep.slice Rep.str) Rep.unit)))))) (fun s=>(s.Name,(s.Kind,(s.Space,(s.From,(s.To,(s.Locks,()))))))) (fun t=>⟨t.1,t.2.1,t.2.2.1,t.2.2.2.1,t.2.2.2.2.1,t.2.2.2.2.2.1⟩) (fun _=>rfl)
def aA.ok (y:aA):Prop:=gS y.Name∧(gI .i64) y.Kind∧gS y.Space∧(gI .i64) y.From∧(gI .i64) y.To∧(gL gS) y.Locks∧True
theorem aA.l0:Lens aA.rep Rep.str 0 (fun x=>x.Name) (fun x y=>{ x with Name:=y }):=(Lens.wQ _ _ _ _).comp (Lens.fst _ _)
theorem aA.l1:Lens aA.rep iV 1 (fun x=>x.Kind) (fun x y=>{ x with Kind:=y }):=(Lens.wQ _ _ _ _).comp ((Lens.snd _ _).comp (Lens.fst _ _))
theorem aA.l2:Lens aA.rep Rep.str 2 (fun x=>x.Space) (fun x y=>{ x with Space:=y }):=(Lens.wQ _ _ _ _).comp ((Lens.snd _ _).comp ((Lens.snd _ _).comp (Lens.fst _ _)))
theorem aA.l3:Lens aA.rep iV 3 (fun x=>x.From) (fun x y=>{ x with From:=y }):=(Lens.wQ _ _ _ _).comp ((Lens.snd _ _).comp ((Lens.snd _ _).comp ((Lens.snd _ _).comp (Lens.fst _ _))))
theorem aA.l4:Lens aA.rep iV 4 (fun x=>x.To) (fun x y=>{ x with To:=y }):=(Lens.wQ _ _ _ _).comp ((Lens.snd _ _).comp ((Lens.snd _ _).comp ((Lens.snd _ _).comp ((Lens.snd _ _).comp (Lens.fst _ _)))))
theorem aA.l5:Lens aA.rep (Rep.slice Rep.str) 5 (fun x=>x.Locks) (fun x y=>{ x with Locks:=y }):=(Lens.wQ _ _ _ _).comp ((Lens.snd _ _).comp ((Lens.snd _ _).comp ((Lens.snd _ _).comp ((Lens.snd _ _).comp ((Lens.snd _ _).comp (Lens.fst _ _))))))
structure GPermitPlan where
  bK:(List bV)
  dh:(List bF)
  ax:(List aA)
  dS:Int
def GPermitPlan.rep:Rep GPermitPlan:=Rep.wQ (Rep.prod (Rep.slice bV.rep) (Rep.prod (Rep.slice bF.rep) (Rep.prod (Rep.slice aA.rep) (Rep.prod iV Rep.unit)))) (fun s=>(s.bK,(s.dh,(s.ax,(s.dS,()))))) (fun t=>⟨t.1,t.2.1,t.2.2.1,t.2.2.2.1⟩) (fun _=>rfl)
def GPermitPlan.ok (y:GPermitPlan):Prop:=(gL bV.ok) y.bK∧(gL bF.ok) y.dh∧(gL aA.ok) y.ax∧(gI .i64) y.dS∧True
theorem GPermitPlan.l0:Lens GPermitPlan.rep (Rep.slice bV.rep) 0 (fun x=>x.bK) (fun x y=>{ x with bK:=y }):=(Lens.wQ _ _ _ _).comp (Lens.fst _ _)
theorem GPermitPlan.l1:Lens GPermitPlan.rep (Rep.slice bF.rep) 1 (fun x=>x.dh) (fun x y=>{ x with dh:=y }):=(Lens.wQ _ _ _ _).comp ((Lens.snd _ _).comp (Lens.fst _ _))
theorem GPermitPlan.l2:Lens GPermitPlan.rep (Rep.slice aA.rep) 2 (fun x=>x.ax) (fun x y=>{ x with ax:=y }):=(Lens.wQ _ _ _ _).comp ((Lens.snd _ _).comp ((Lens.snd _ _).comp (Lens.fst _ _)))
theorem GPermitPlan.l3:Lens GPermitPlan.rep iV 3 (fun x=>x.dS) (fun x y=>{ x with dS:=y }):=(Lens.wQ _ _ _ _).comp ((Lens.snd _ _).comp ((Lens.snd _ _).comp ((Lens.snd _ _).comp (Lens.fst _ _))))
structure GEvent where
  At:Int
  Op:Int
  Name:Str
  Space:Str
  Person:Str
  vS:Int
  OH:Int
  To:Int
def GEvent.rep:Rep GEvent:=Rep.wQ (Rep.prod iV (Rep.prod iV (Rep.prod Rep.str (Rep.prod Rep.str (Rep.prod Rep.str (Rep.prod iV (Rep.prod iV (Rep.prod iV Rep.unit)))))))) (fun s=>(s.At,(s.Op,(s.Name,(s.Space,(s.Person,(s.vS,(s.OH,(s.To,()))))))))) (fun t=>⟨t.1,t.2.1,t.2.2.1,t.2.2.2.1,t.2.2.2.2.1,t.2.2.2.2.2.1,t.2.2.2.2.2.2.1,t.2.2.2.2.2.2.2.1⟩) (fun _=>rfl)
def GEvent.ok (y:GEvent):Prop:=(gI .i64) y.At∧(gI .i64) y.Op∧gS y.Name∧gS y.Space∧gS y.Person∧(gI .i64) y.vS∧(gI .i64) y.OH∧(gI .i64) y.To∧True
theorem GEvent.l0:Lens GEvent.rep iV 0 (fun x=>x.At) (fun x y=>{ x with At:=y }):=(Lens.wQ _ _ _ _).comp (Lens.fst _ _)
theorem GEvent.l1:Lens GEvent.rep iV 1 (fun x=>x.Op) (fun x y=>{ x with Op:=y }):=(Lens.wQ _ _ _ _).comp ((Lens.snd _ _).comp (Lens.fst _ _))
theorem GEvent.l2:Lens GEvent.rep Rep.str 2 (fun x=>x.Name) (fun x y=>{ x with Name:=y }):=(Lens.wQ _ _ _ _).comp ((Lens.snd _ _).comp ((Lens.snd _ _).comp (Lens.fst _ _)))
theorem GEvent.l3:Lens GEvent.rep Rep.str 3 (fun x=>x.Space) (fun x y=>{ x with Space:=y }):=(Lens.wQ _ _ _ _).comp ((Lens.snd _ _).comp ((Lens.snd _ _).comp ((Lens.snd _ _).comp (Lens.fst _ _))))
theorem GEvent.l4:Lens GEvent.rep Rep.str 4 (fun x=>x.Person) (fun x y=>{ x with Person:=y }):=(Lens.wQ _ _ _ _).comp ((Lens.snd _ _).comp ((Lens.snd _ _).comp ((Lens.snd _ _).comp ((Lens.snd _ _).comp (Lens.fst _ _)))))
theorem GEvent.l5:Lens GEvent.rep iV 5 (fun x=>x.vS) (fun x y=>{ x with vS:=y }):=(Lens.wQ _ _ _ _).comp ((Lens.snd _ _).comp ((Lens.snd _ _).comp ((Lens.snd _ _).comp ((Lens.snd _ _).comp ((Lens.snd _ _).comp (Lens.fst _ _))))))
theorem GEvent.l6:Lens GEvent.rep iV 6 (fun x=>x.OH) (fun x y=>{ x with OH:=y }):=(Lens.wQ _ _ _ _).comp ((Lens.snd _ _).comp ((Lens.snd _ _).comp ((Lens.snd _ _).comp ((Lens.snd _ _).comp ((Lens.snd _ _).comp ((Lens.snd _ _).comp (Lens.fst _ _)))))))
theorem GEvent.l7:Lens GEvent.rep iV 7 (fun x=>x.To) (fun x y=>{ x with To:=y }):=(Lens.wQ _ _ _ _).comp ((Lens.snd _ _).comp ((Lens.snd _ _).comp ((Lens.snd _ _).comp ((Lens.snd _ _).comp ((Lens.snd _ _).comp ((Lens.snd _ _).comp ((Lens.snd _ _).comp (Lens.fst _ _))))))))
structure ah where
  plan:GPermitPlan
  now:Int
  done:(List GEvent)
def ah.rep:Rep (ah×Value×Value×Value):=Rep.wQ (Rep.prod GPermitPlan.rep (Rep.prod iV (Rep.prod Rep.CP (Rep.prod Rep.CP (Rep.prod Rep.CP (Rep.prod (Rep.slice GEvent.rep) Rep.unit)))))) (fun s=>(s.1.plan,(s.1.now,(s.2.1,(s.2.2.1,(s.2.2.2,(s.1.done,()))))))) (fun t=>(⟨t.1,t.2.1,t.2.2.2.2.2.1⟩,t.2.2.1,t.2.2.2.1,t.2.2.2.2.1)) (fun _=>rfl)
theorem ah.l0:Lens ah.rep GPermitPlan.rep 0 (fun x=>x.1.plan) (fun x y=>({ x.1 with plan:=y },x.2)):=(Lens.wQ _ _ _ _).comp (Lens.fst _ _)
theorem ah.l1:Lens ah.rep iV 4 (fun x=>x.1.now) (fun x y=>({ x.1 with now:=y },x.2)):=(Lens.wQ _ _ _ _).comp ((Lens.snd _ _).comp (Lens.fst _ _))
theorem ah.l2:Lens ah.rep Rep.CP 5 (fun x=>x.2.1) (fun x y=>(x.1,y,x.2.2.1,x.2.2.2)):=(Lens.wQ _ _ _ _).comp ((Lens.snd _ _).comp ((Lens.snd _ _).comp (Lens.fst _ _)))
theorem ah.l3:Lens ah.rep Rep.CP 6 (fun x=>x.2.2.1) (fun x y=>(x.1,x.2.1,y,x.2.2.2)):=(Lens.wQ _ _ _ _).comp ((Lens.snd _ _).comp ((Lens.snd _ _).comp ((Lens.snd _ _).comp (Lens.fst _ _))))
theorem ah.l4:Lens ah.rep Rep.CP 7 (fun x=>x.2.2.2) (fun x y=>(x.1,x.2.1,x.2.2.1,y)):=(Lens.wQ _ _ _ _).comp ((Lens.snd _ _).comp ((Lens.snd _ _).comp ((Lens.snd _ _).comp ((Lens.snd _ _).comp (Lens.fst _ _)))))
theorem ah.l5:Lens ah.rep (Rep.slice GEvent.rep) 8 (fun x=>x.1.done) (fun x y=>({ x.1 with done:=y },x.2)):=(Lens.wQ _ _ _ _).comp ((Lens.snd _ _).comp ((Lens.snd _ _).comp ((Lens.snd _ _).comp ((Lens.snd _ _).comp ((Lens.snd _ _).comp (Lens.fst _ _))))))
structure af where
  state:Int
  Gt:Str
  Be:Int
def af.rep:Rep af:=Rep.wQ (Rep.prod iV (Rep.prod Rep.str (Rep.prod iV Rep.unit))) (fun s=>(s.state,(s.Gt,(s.Be,())))) (fun t=>⟨t.1,t.2.1,t.2.2.1⟩) (fun _=>rfl)
def af.ok (y:af):Prop:=(gI .i64) y.state∧gS y.Gt∧(gI .i64) y.Be∧True
theorem af.l0:Lens af.rep iV 0 (fun x=>x.state) (fun x y=>{ x with state:=y }):=(Lens.wQ _ _ _ _).comp (Lens.fst _ _)
theorem af.l1:Lens af.rep Rep.str 1 (fun x=>x.Gt) (fun x y=>{ x with Gt:=y }):=(Lens.wQ _ _ _ _).comp ((Lens.snd _ _).comp (Lens.fst _ _))
theorem af.l2:Lens af.rep iV 2 (fun x=>x.Be) (fun x y=>{ x with Be:=y }):=(Lens.wQ _ _ _ _).comp ((Lens.snd _ _).comp ((Lens.snd _ _).comp (Lens.fst _ _)))
structure aj where
  at_:Int
  lK:Int
  QC:Int
def aj.rep:Rep aj:=Rep.wQ (Rep.prod iV (Rep.prod iV (Rep.prod iV Rep.unit))) (fun s=>(s.at_,(s.lK,(s.QC,())))) (fun t=>⟨t.1,t.2.1,t.2.2.1⟩) (fun _=>rfl)
def aj.ok (y:aj):Prop:=(gI .i64) y.at_∧(gI .i64) y.lK∧(gI .i64) y.QC∧True
theorem aj.l0:Lens aj.rep iV 0 (fun x=>x.at_) (fun x y=>{ x with at_:=y }):=(Lens.wQ _ _ _ _).comp (Lens.fst _ _)
theorem aj.l1:Lens aj.rep iV 1 (fun x=>x.lK) (fun x y=>{ x with lK:=y }):=(Lens.wQ _ _ _ _).comp ((Lens.snd _ _).comp (Lens.fst _ _))
theorem aj.l2:Lens aj.rep iV 2 (fun x=>x.QC) (fun x y=>{ x with QC:=y }):=(Lens.wQ _ _ _ _).comp ((Lens.snd _ _).comp ((Lens.snd _ _).comp (Lens.fst _ _)))
structure aY where
  word:Str
  fields:Str
  states:(List Int)
  LH:(Option Nat)
def aY.rep:Rep aY:=Rep.wQ (Rep.prod Rep.str (Rep.prod Rep.str (Rep.prod (Rep.D9 iV) (Rep.prod Rep.Nb Rep.unit)))) (fun s=>(s.word,(s.fields,(s.states,(s.LH,()))))) (fun t=>⟨t.1,t.2.1,t.2.2.1,t.2.2.2.1⟩) (fun _=>rfl)
theorem aY.l0:Lens aY.rep Rep.str 0 (fun x=>x.word) (fun x y=>{ x with word:=y }):=(Lens.wQ _ _ _ _).comp (Lens.fst _ _)
theorem aY.l1:Lens aY.rep Rep.str 1 (fun x=>x.fields) (fun x y=>{ x with fields:=y }):=(Lens.wQ _ _ _ _).comp ((Lens.snd _ _).comp (Lens.fst _ _))
theorem aY.l2:Lens aY.rep (Rep.D9 iV) 2 (fun x=>x.states) (fun x y=>{ x with states:=y }):=(Lens.wQ _ _ _ _).comp ((Lens.snd _ _).comp ((Lens.snd _ _).comp (Lens.fst _ _)))
theorem aY.l3:Lens aY.rep Rep.Nb 3 (fun x=>x.LH) (fun x y=>{ x with LH:=y }):=(Lens.wQ _ _ _ _).comp ((Lens.snd _ _).comp ((Lens.snd _ _).comp ((Lens.snd _ _).comp (Lens.fst _ _))))
structure ai where
  names:(List Str)
  e:Int
def ai.rep:Rep ai:=Rep.wQ (Rep.prod (Rep.slice Rep.str) (Rep.prod iV Rep.unit)) (fun s=>(s.names,(s.e,()))) (fun t=>⟨t.1,t.2.1⟩) (fun _=>rfl)
def ai.ok (y:ai):Prop:=(gL gS) y.names∧(gI .i64) y.e∧True
theorem ai.l0:Lens ai.rep (Rep.slice Rep.str) 0 (fun x=>x.names) (fun x y=>{ x with names:=y }):=(Lens.wQ _ _ _ _).comp (Lens.fst _ _)
theorem ai.l1:Lens ai.rep iV 1 (fun x=>x.e) (fun x y=>{ x with e:=y }):=(Lens.wQ _ _ _ _).comp ((Lens.snd _ _).comp (Lens.fst _ _))
structure bT where
  Err:Int
  Names:(List Str)
def bT.rep:Rep bT:=Rep.wQ (Rep.prod iV (Rep.prod (Rep.slice Rep.str) Rep.unit)) (fun s=>(s.Err,(s.Names,()))) (fun t=>⟨t.1,t.2.1⟩) (fun _=>rfl)
def bT.ok (y:bT):Prop:=(gI .i64) y.Err∧(gL gS) y.Names∧True
theorem bT.l0:Lens bT.rep iV 0 (fun x=>x.Err) (fun x y=>{ x with Err:=y }):=(Lens.wQ _ _ _ _).comp (Lens.fst _ _)
theorem bT.l1:Lens bT.rep (Rep.slice Rep.str) 1 (fun x=>x.Names) (fun x y=>{ x with Names:=y }):=(Lens.wQ _ _ _ _).comp ((Lens.snd _ _).comp (Lens.fst _ _))
abbrev dP:=bV.rep
abbrev iZ:=bF.rep
abbrev aJ:=aA.rep
abbrev aQ:=GPermitPlan.rep
abbrev dw:=GEvent.rep
abbrev bP:=ah.rep
abbrev aS:=af.rep
abbrev bY:=aj.rep
abbrev oV:=aY.rep
abbrev ak:=ai.rep
abbrev fH:=bT.rep
abbrev dJ (k:Nat) (g:ah) (a2 a3 a4 v:Value) (x2:(List (Str×af))) (x3:(List (Str×aj))) (x4:(List (Str×Str))):List (Nat×dU):=[(k,iq (jI 90 ah.rep (g,a2,a3,a4) ([⟨8,47,GEvent.rep.sz⟩]:List iY)) v),(k+1,iq (dD dK af.rep x2) a2),(k+2,iq (dD dK aj.rep x3) a3),(k+3,iq (dD dK Rep.str x4) a4)]
abbrev oP0 (k:Nat) (g:ah) (a2 a3 a4 v:Value) (x2:(List (Str×af))) (x3:(List (Str×aj))) (x4:(List (Str×Str))):List (Nat×dU):=[(k,iq (jI 90 ah.rep (g,a2,a3,a4) ([]:List iY)) v),(k+1,iq (dD dK af.rep x2) a2),(k+2,iq (dD dK aj.rep x3) a3),(k+3,iq (dD dK Rep.str x4) a4)]
end Go.KB
