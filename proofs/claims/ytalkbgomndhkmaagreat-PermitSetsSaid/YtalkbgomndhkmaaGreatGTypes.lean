/- Go's types as Lean types. Printed by a program. No condition. -/
import Derived.Test.YtalkbgomndhkmaaGreatKZf
namespace Go.KB
abbrev r_i8:Rep Int:=Rep.int .i8
abbrev r_i16:Rep Int:=Rep.int .i16
abbrev r_i32:Rep Int:=Rep.int .i32
abbrev gY:Rep Int:=Rep.int .i64
abbrev r_u8:Rep Int:=Rep.int .u8
abbrev r_u16:Rep Int:=Rep.int .u16
abbrev r_u32:Rep Int:=Rep.int .u32
abbrev r_u64:Rep Int:=Rep.int .u64
structure bV where
  Name:Str
  lJ:Bool
  Next:(List Str)
def bV.rep:Rep bV:=Rep.wQ (Rep.prod Rep.str (Rep.prod Rep.bool (Rep.prod (Rep.slice Rep.str) Rep.unit))) (fun s=>(s.Name,(s.lJ,(s.Next,())))) (fun t=>⟨t.1,t.2.1,t.2.2.1⟩) (fun _=>rfl)
def bV.ok (y:bV):Prop:=gS y.Name∧(fun _=>True) y.lJ∧(gL gS) y.Next∧True
theorem bV.l0:Lens bV.rep Rep.str 0 (fun x=>x.Name) (fun x y=>{ x with Name:=y }):=(Lens.wQ _ _ _ _).comp (Lens.fst _ _)
theorem bV.l1:Lens bV.rep Rep.bool 1 (fun x=>x.lJ) (fun x y=>{ x with lJ:=y }):=(Lens.wQ _ _ _ _).comp ((Lens.snd _ _).comp (Lens.fst _ _))
theorem bV.l2:Lens bV.rep (Rep.slice Rep.str) 2 (fun x=>x.Next) (fun x y=>{ x with Next:=y }):=(Lens.wQ _ _ _ _).comp ((Lens.snd _ _).comp ((Lens.snd _ _).comp (Lens.fst _ _)))
structure bG where
  A:Int
  B:Int
  Reach:Int
def bG.rep:Rep bG:=Rep.wQ (Rep.prod gY (Rep.prod gY (Rep.prod gY Rep.unit))) (fun s=>(s.A,(s.B,(s.Reach,())))) (fun t=>⟨t.1,t.2.1,t.2.2.1⟩) (fun _=>rfl)
def bG.ok (y:bG):Prop:=(gI .i64) y.A∧(gI .i64) y.B∧(gI .i64) y.Reach∧True
theorem bG.l0:Lens bG.rep gY 0 (fun x=>x.A) (fun x y=>{ x with A:=y }):=(Lens.wQ _ _ _ _).comp (Lens.fst _ _)
theorem bG.l1:Lens bG.rep gY 1 (fun x=>x.B) (fun x y=>{ x with B:=y }):=(Lens.wQ _ _ _ _).comp ((Lens.snd _ _).comp (Lens.fst _ _))
theorem bG.l2:Lens bG.rep gY 2 (fun x=>x.Reach) (fun x y=>{ x with Reach:=y }):=(Lens.wQ _ _ _ _).comp ((Lens.snd _ _).comp ((Lens.snd _ _).comp (Lens.fst _ _)))
structure aF where
  Name:Str
  Kind:Int
  Space:Str
  From:Int
  To:Int
  Locks:(List Str)
def aF.rep:Rep aF:=Rep.wQ (Rep.prod Rep.str (Rep.prod gY (Rep.prod Rep.str (Rep.prod gY (Rep.prod gY (Rep.prod (Rep.slice Rep.str) Rep.unit)))))) (fun s=>(s.Name,(s.Kind,(s.Space,(s.From,(s.To,(s.Locks,()))))))) (fun t=>⟨t.1,t.2.1,t.2.2.1,t.2.2.2.1,t.2.2.2.2.1,t.2.2.2.2.2.1⟩) (fun _=>rfl)
def aF.ok (y:aF):Prop:=gS y.Name∧(gI .i64) y.Kind∧gS y.Space∧(gI .i64) y.From∧(gI .i64) y.To∧(gL gS) y.Locks∧True
theorem aF.l0:Lens aF.rep Rep.str 0 (fun x=>x.Name) (fun x y=>{ x with Name:=y }):=(Lens.wQ _ _ _ _).comp (Lens.fst _ _)
theorem aF.l1:Lens aF.rep gY 1 (fun x=>x.Kind) (fun x y=>{ x with Kind:=y }):=(Lens.wQ _ _ _ _).comp ((Lens.snd _ _).comp (Lens.fst _ _))
theorem aF.l2:Lens aF.rep Rep.str 2 (fun x=>x.Space) (fun x y=>{ x with Space:=y }):=(Lens.wQ _ _ _ _).comp ((Lens.snd _ _).comp ((Lens.snd _ _).comp (Lens.fst _ _)))
theorem aF.l3:Lens aF.rep gY 3 (fun x=>x.From) (fun x y=>{ x with From:=y }):=(Lens.wQ _ _ _ _).comp ((Lens.snd _ _).comp ((Lens.snd _ _).comp ((Lens.snd _ _).comp (Lens.fst _ _))))
theorem aF.l4:Lens aF.rep gY 4 (fun x=>x.To) (fun x y=>{ x with To:=y }):=(Lens.wQ _ _ _ _).comp ((Lens.snd _ _).comp ((Lens.snd _ _).comp ((Lens.snd _ _).comp ((Lens.snd _ _).comp (Lens.fst _ _)))))
theorem aF.l5:Lens aF.rep (Rep.slice Rep.str) 5 (fun x=>x.Locks) (fun x y=>{ x with Locks:=y }):=(Lens.wQ _ _ _ _).comp ((Lens.snd _ _).comp ((Lens.snd _ _).comp ((Lens.snd _ _).comp ((Lens.snd _ _).comp ((Lens.snd _ _).comp (Lens.fst _ _))))))
structure GPermitPlan where
  bU:(List bV)
  dm:(List bG)
  ay:(List aF)
  dX:Int
def GPermitPlan.rep:Rep GPermitPlan:=Rep.wQ (Rep.prod (Rep.slice bV.rep) (Rep.prod (Rep.slice bG.rep) (Rep.prod (Rep.slice aF.rep) (Rep.prod gY Rep.unit)))) (fun s=>(s.bU,(s.dm,(s.ay,(s.dX,()))))) (fun t=>⟨t.1,t.2.1,t.2.2.1,t.2.2.2.1⟩) (fun _=>rfl)
def GPermitPlan.ok (y:GPermitPlan):Prop:=(gL bV.ok) y.bU∧(gL bG.ok) y.dm∧(gL aF.ok) y.ay∧(gI .i64) y.dX∧True
theorem GPermitPlan.l0:Lens GPermitPlan.rep (Rep.slice bV.rep) 0 (fun x=>x.bU) (fun x y=>{ x with bU:=y }):=(Lens.wQ _ _ _ _).comp (Lens.fst _ _)
theorem GPermitPlan.l1:Lens GPermitPlan.rep (Rep.slice bG.rep) 1 (fun x=>x.dm) (fun x y=>{ x with dm:=y }):=(Lens.wQ _ _ _ _).comp ((Lens.snd _ _).comp (Lens.fst _ _))
theorem GPermitPlan.l2:Lens GPermitPlan.rep (Rep.slice aF.rep) 2 (fun x=>x.ay) (fun x y=>{ x with ay:=y }):=(Lens.wQ _ _ _ _).comp ((Lens.snd _ _).comp ((Lens.snd _ _).comp (Lens.fst _ _)))
theorem GPermitPlan.l3:Lens GPermitPlan.rep gY 3 (fun x=>x.dX) (fun x y=>{ x with dX:=y }):=(Lens.wQ _ _ _ _).comp ((Lens.snd _ _).comp ((Lens.snd _ _).comp ((Lens.snd _ _).comp (Lens.fst _ _))))
structure bQ where
  At:Int
  Op:Int
  Name:Str
  Space:Str
  Person:Str
  BF:Int
  U2:Int
  To:Int
def bQ.rep:Rep bQ:=Rep.wQ (Rep.prod gY (Rep.prod gY (Rep.prod Rep.str (Rep.prod Rep.str (Rep.prod Rep.str (Rep.prod gY (Rep.prod gY (Rep.prod gY Rep.unit)))))))) (fun s=>(s.At,(s.Op,(s.Name,(s.Space,(s.Person,(s.BF,(s.U2,(s.To,()))))))))) (fun t=>⟨t.1,t.2.1,t.2.2.1,t.2.2.2.1,t.2.2.2.2.1,t.2.2.2.2.2.1,t.2.2.2.2.2.2.1,t.2.2.2.2.2.2.2.1⟩) (fun _=>rfl)
def bQ.ok (y:bQ):Prop:=(gI .i64) y.At∧(gI .i64) y.Op∧gS y.Name∧gS y.Space∧gS y.Person∧(gI .i64) y.BF∧(gI .i64) y.U2∧(gI .i64) y.To∧True
theorem bQ.l0:Lens bQ.rep gY 0 (fun x=>x.At) (fun x y=>{ x with At:=y }):=(Lens.wQ _ _ _ _).comp (Lens.fst _ _)
theorem bQ.l1:Lens bQ.rep gY 1 (fun x=>x.Op) (fun x y=>{ x with Op:=y }):=(Lens.wQ _ _ _ _).comp ((Lens.snd _ _).comp (Lens.fst _ _))
theorem bQ.l2:Lens bQ.rep Rep.str 2 (fun x=>x.Name) (fun x y=>{ x with Name:=y }):=(Lens.wQ _ _ _ _).comp ((Lens.snd _ _).comp ((Lens.snd _ _).comp (Lens.fst _ _)))
theorem bQ.l3:Lens bQ.rep Rep.str 3 (fun x=>x.Space) (fun x y=>{ x with Space:=y }):=(Lens.wQ _ _ _ _).comp ((Lens.snd _ _).comp ((Lens.snd _ _).comp ((Lens.snd _ _).comp (Lens.fst _ _))))
theorem bQ.l4:Lens bQ.rep Rep.str 4 (fun x=>x.Person) (fun x y=>{ x with Person:=y }):=(Lens.wQ _ _ _ _).comp ((Lens.snd _ _).comp ((Lens.snd _ _).comp ((Lens.snd _ _).comp ((Lens.snd _ _).comp (Lens.fst _ _)))))
theorem bQ.l5:Lens bQ.rep gY 5 (fun x=>x.BF) (fun x y=>{ x with BF:=y }):=(Lens.wQ _ _ _ _).comp ((Lens.snd _ _).comp ((Lens.snd _ _).comp ((Lens.snd _ _).comp ((Lens.snd _ _).comp ((Lens.snd _ _).comp (Lens.fst _ _))))))
theorem bQ.l6:Lens bQ.rep gY 6 (fun x=>x.U2) (fun x y=>{ x with U2:=y }):=(Lens.wQ _ _ _ _).comp ((Lens.snd _ _).comp ((Lens.snd _ _).comp ((Lens.snd _ _).comp ((Lens.snd _ _).comp ((Lens.snd _ _).comp ((Lens.snd _ _).comp (Lens.fst _ _)))))))
theorem bQ.l7:Lens bQ.rep gY 7 (fun x=>x.To) (fun x y=>{ x with To:=y }):=(Lens.wQ _ _ _ _).comp ((Lens.snd _ _).comp ((Lens.snd _ _).comp ((Lens.snd _ _).comp ((Lens.snd _ _).comp ((Lens.snd _ _).comp ((Lens.snd _ _).comp ((Lens.snd _ _).comp (Lens.fst _ _))))))))
structure af where
  plan:GPermitPlan
  now:Int
  done:(List bQ)
def af.rep:Rep (af×Value×Value×Value):=Rep.wQ (Rep.prod GPermitPlan.rep (Rep.prod gY (Rep.prod Rep.Dh (Rep.prod Rep.Dh (Rep.prod Rep.Dh (Rep.prod (Rep.slice bQ.rep) Rep.unit)))))) (fun s=>(s.1.plan,(s.1.now,(s.2.1,(s.2.2.1,(s.2.2.2,(s.1.done,()))))))) (fun t=>(⟨t.1,t.2.1,t.2.2.2.2.2.1⟩,t.2.2.1,t.2.2.2.1,t.2.2.2.2.1)) (fun _=>rfl)
theorem af.l0:Lens af.rep GPermitPlan.rep 0 (fun x=>x.1.plan) (fun x y=>({ x.1 with plan:=y },x.2)):=(Lens.wQ _ _ _ _).comp (Lens.fst _ _)
theorem af.l1:Lens af.rep gY 4 (fun x=>x.1.now) (fun x y=>({ x.1 with now:=y },x.2)):=(Lens.wQ _ _ _ _).comp ((Lens.snd _ _).comp (Lens.fst _ _))
theorem af.l2:Lens af.rep Rep.Dh 5 (fun x=>x.2.1) (fun x y=>(x.1,y,x.2.2.1,x.2.2.2)):=(Lens.wQ _ _ _ _).comp ((Lens.snd _ _).comp ((Lens.snd _ _).comp (Lens.fst _ _)))
theorem af.l3:Lens af.rep Rep.Dh 6 (fun x=>x.2.2.1) (fun x y=>(x.1,x.2.1,y,x.2.2.2)):=(Lens.wQ _ _ _ _).comp ((Lens.snd _ _).comp ((Lens.snd _ _).comp ((Lens.snd _ _).comp (Lens.fst _ _))))
theorem af.l4:Lens af.rep Rep.Dh 7 (fun x=>x.2.2.2) (fun x y=>(x.1,x.2.1,x.2.2.1,y)):=(Lens.wQ _ _ _ _).comp ((Lens.snd _ _).comp ((Lens.snd _ _).comp ((Lens.snd _ _).comp ((Lens.snd _ _).comp (Lens.fst _ _)))))
theorem af.l5:Lens af.rep (Rep.slice bQ.rep) 8 (fun x=>x.1.done) (fun x y=>({ x.1 with done:=y },x.2)):=(Lens.wQ _ _ _ _).comp ((Lens.snd _ _).comp ((Lens.snd _ _).comp ((Lens.snd _ _).comp ((Lens.snd _ _).comp ((Lens.snd _ _).comp (Lens.fst _ _))))))
structure ah where
  state:Int
  IE:Str
  OH:Int
def ah.rep:Rep ah:=Rep.wQ (Rep.prod gY (Rep.prod Rep.str (Rep.prod gY Rep.unit))) (fun s=>(s.state,(s.IE,(s.OH,())))) (fun t=>⟨t.1,t.2.1,t.2.2.1⟩) (fun _=>rfl)
def ah.ok (y:ah):Prop:=(gI .i64) y.state∧gS y.IE∧(gI .i64) y.OH∧True
theorem ah.l0:Lens ah.rep gY 0 (fun x=>x.state) (fun x y=>{ x with state:=y }):=(Lens.wQ _ _ _ _).comp (Lens.fst _ _)
theorem ah.l1:Lens ah.rep Rep.str 1 (fun x=>x.IE) (fun x y=>{ x with IE:=y }):=(Lens.wQ _ _ _ _).comp ((Lens.snd _ _).comp (Lens.fst _ _))
theorem ah.l2:Lens ah.rep gY 2 (fun x=>x.OH) (fun x y=>{ x with OH:=y }):=(Lens.wQ _ _ _ _).comp ((Lens.snd _ _).comp ((Lens.snd _ _).comp (Lens.fst _ _)))
structure ak where
  at_:Int
  lQ:Int
  SC:Int
def ak.rep:Rep ak:=Rep.wQ (Rep.prod gY (Rep.prod gY (Rep.prod gY Rep.unit))) (fun s=>(s.at_,(s.lQ,(s.SC,())))) (fun t=>⟨t.1,t.2.1,t.2.2.1⟩) (fun _=>rfl)
def ak.ok (y:ak):Prop:=(gI .i64) y.at_∧(gI .i64) y.lQ∧(gI .i64) y.SC∧True
theorem ak.l0:Lens ak.rep gY 0 (fun x=>x.at_) (fun x y=>{ x with at_:=y }):=(Lens.wQ _ _ _ _).comp (Lens.fst _ _)
theorem ak.l1:Lens ak.rep gY 1 (fun x=>x.lQ) (fun x y=>{ x with lQ:=y }):=(Lens.wQ _ _ _ _).comp ((Lens.snd _ _).comp (Lens.fst _ _))
theorem ak.l2:Lens ak.rep gY 2 (fun x=>x.SC) (fun x y=>{ x with SC:=y }):=(Lens.wQ _ _ _ _).comp ((Lens.snd _ _).comp ((Lens.snd _ _).comp (Lens.fst _ _)))
structure bC where
  word:Str
  fields:Str
  states:(List Int)
  do_:(Option Nat)
def bC.rep:Rep bC:=Rep.wQ (Rep.prod Rep.str (Rep.prod Rep.str (Rep.prod (Rep.Ed gY) (Rep.prod Rep.Lj Rep.unit)))) (fun s=>(s.word,(s.fields,(s.states,(s.do_,()))))) (fun t=>⟨t.1,t.2.1,t.2.2.1,t.2.2.2.1⟩) (fun _=>rfl)
theorem bC.l0:Lens bC.rep Rep.str 0 (fun x=>x.word) (fun x y=>{ x with word:=y }):=(Lens.wQ _ _ _ _).comp (Lens.fst _ _)
theorem bC.l1:Lens bC.rep Rep.str 1 (fun x=>x.fields) (fun x y=>{ x with fields:=y }):=(Lens.wQ _ _ _ _).comp ((Lens.snd _ _).comp (Lens.fst _ _))
theorem bC.l2:Lens bC.rep (Rep.Ed gY) 2 (fun x=>x.states) (fun x y=>{ x with states:=y }):=(Lens.wQ _ _ _ _).comp ((Lens.snd _ _).comp ((Lens.snd _ _).comp (Lens.fst _ _)))
theorem bC.l3:Lens bC.rep Rep.Lj 3 (fun x=>x.do_) (fun x y=>{ x with do_:=y }):=(Lens.wQ _ _ _ _).comp ((Lens.snd _ _).comp ((Lens.snd _ _).comp ((Lens.snd _ _).comp (Lens.fst _ _))))
structure aj where
  names:(List Str)
  e:Int
def aj.rep:Rep aj:=Rep.wQ (Rep.prod (Rep.slice Rep.str) (Rep.prod gY Rep.unit)) (fun s=>(s.names,(s.e,()))) (fun t=>⟨t.1,t.2.1⟩) (fun _=>rfl)
def aj.ok (y:aj):Prop:=(gL gS) y.names∧(gI .i64) y.e∧True
theorem aj.l0:Lens aj.rep (Rep.slice Rep.str) 0 (fun x=>x.names) (fun x y=>{ x with names:=y }):=(Lens.wQ _ _ _ _).comp (Lens.fst _ _)
theorem aj.l1:Lens aj.rep gY 1 (fun x=>x.e) (fun x y=>{ x with e:=y }):=(Lens.wQ _ _ _ _).comp ((Lens.snd _ _).comp (Lens.fst _ _))
structure dH where
  Err:Int
  Names:(List Str)
def dH.rep:Rep dH:=Rep.wQ (Rep.prod gY (Rep.prod (Rep.slice Rep.str) Rep.unit)) (fun s=>(s.Err,(s.Names,()))) (fun t=>⟨t.1,t.2.1⟩) (fun _=>rfl)
def dH.ok (y:dH):Prop:=(gI .i64) y.Err∧(gL gS) y.Names∧True
theorem dH.l0:Lens dH.rep gY 0 (fun x=>x.Err) (fun x y=>{ x with Err:=y }):=(Lens.wQ _ _ _ _).comp (Lens.fst _ _)
theorem dH.l1:Lens dH.rep (Rep.slice Rep.str) 1 (fun x=>x.Names) (fun x y=>{ x with Names:=y }):=(Lens.wQ _ _ _ _).comp ((Lens.snd _ _).comp (Lens.fst _ _))
abbrev dM:=bV.rep
abbrev gV:=bG.rep
abbrev aO:=aF.rep
abbrev aK:=GPermitPlan.rep
abbrev dP:=bQ.rep
abbrev bZ:=af.rep
abbrev aX:=ah.rep
abbrev dw:=ak.rep
abbrev nV:=bC.rep
abbrev ai:=aj.rep
abbrev eU:=dH.rep
abbrev dQ (k:Nat) (g:af) (a2 a3 a4 v:Value) (x2:(List (Str×ah))) (x3:(List (Str×ak))) (x4:(List (Str×Str))):List (Nat×dW):=[(k,iy (jr 90 af.rep (g,a2,a3,a4) ([⟨8,47,bQ.rep.sz⟩]:List iP)) v),(k+1,iy (dO dV ah.rep x2) a2),(k+2,iy (dO dV ak.rep x3) a3),(k+3,iy (dO dV Rep.str x4) a4)]
abbrev oP0 (k:Nat) (g:af) (a2 a3 a4 v:Value) (x2:(List (Str×ah))) (x3:(List (Str×ak))) (x4:(List (Str×Str))):List (Nat×dW):=[(k,iy (jr 90 af.rep (g,a2,a3,a4) ([]:List iP)) v),(k+1,iy (dO dV ah.rep x2) a2),(k+2,iy (dO dV ak.rep x3) a3),(k+3,iy (dO dV Rep.str x4) a4)]
end Go.KB
