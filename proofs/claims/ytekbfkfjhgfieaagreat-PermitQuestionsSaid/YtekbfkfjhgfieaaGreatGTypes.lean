/- Go's types as Lean types. Printed by a program. No condition. -/
import Derived.Test.YtekbfkfjhgfieaaGreatKZf
namespace Go.KB
abbrev r_i8:Rep Int:=Rep.int .i8
abbrev r_i16:Rep Int:=Rep.int .i16
abbrev r_i32:Rep Int:=Rep.int .i32
abbrev bZ:Rep Int:=Rep.int .i64
abbrev r_u8:Rep Int:=Rep.int .u8
abbrev r_u16:Rep Int:=Rep.int .u16
abbrev r_u32:Rep Int:=Rep.int .u32
abbrev r_u64:Rep Int:=Rep.int .u64
structure dH where
  Name:Str
  dD:Bool
  Next:(List Str)
def dH.rep:Rep dH:=Rep.wY (Rep.prod Rep.str (Rep.prod Rep.bool (Rep.prod (Rep.slice Rep.str) Rep.unit))) (fun s=>(s.Name,(s.dD,(s.Next,())))) (fun t=>⟨t.1,t.2.1,t.2.2.1⟩) (fun _=>rfl)
def dH.ok (y:dH):Prop:=gS y.Name∧(fun _=>True) y.dD∧(gL gS) y.Next∧True
theorem dH.l0:Lens dH.rep Rep.str 0 (fun x=>x.Name) (fun x y=>{ x with Name:=y }):=(Lens.wY _ _ _ _).comp (Lens.fst _ _)
theorem dH.l1:Lens dH.rep Rep.bool 1 (fun x=>x.dD) (fun x y=>{ x with dD:=y }):=(Lens.wY _ _ _ _).comp ((Lens.snd _ _).comp (Lens.fst _ _))
theorem dH.l2:Lens dH.rep (Rep.slice Rep.str) 2 (fun x=>x.Next) (fun x y=>{ x with Next:=y }):=(Lens.wY _ _ _ _).comp ((Lens.snd _ _).comp ((Lens.snd _ _).comp (Lens.fst _ _)))
structure cZ where
  A:Int
  B:Int
  Reach:Int
def cZ.rep:Rep cZ:=Rep.wY (Rep.prod bZ (Rep.prod bZ (Rep.prod bZ Rep.unit))) (fun s=>(s.A,(s.B,(s.Reach,())))) (fun t=>⟨t.1,t.2.1,t.2.2.1⟩) (fun _=>rfl)
def cZ.ok (y:cZ):Prop:=(gI .i64) y.A∧(gI .i64) y.B∧(gI .i64) y.Reach∧True
theorem cZ.l0:Lens cZ.rep bZ 0 (fun x=>x.A) (fun x y=>{ x with A:=y }):=(Lens.wY _ _ _ _).comp (Lens.fst _ _)
theorem cZ.l1:Lens cZ.rep bZ 1 (fun x=>x.B) (fun x y=>{ x with B:=y }):=(Lens.wY _ _ _ _).comp ((Lens.snd _ _).comp (Lens.fst _ _))
theorem cZ.l2:Lens cZ.rep bZ 2 (fun x=>x.Reach) (fun x y=>{ x with Reach:=y }):=(Lens.wY _ _ _ _).comp ((Lens.snd _ _).comp ((Lens.snd _ _).comp (Lens.fst _ _)))
structure aH where
  Name:Str
  Kind:Int
  Space:Str
  From:Int
  To:Int
  Locks:(List Str)
def aH.rep:Rep aH:=Rep.wY (Rep.prod Rep.str (Rep.prod bZ (Rep.prod Rep.str (Rep.prod bZ (Rep.prod bZ (Rep.prod (Rep.slice Rep.str) Rep.unit)))))) (fun s=>(s.Name,(s.Kind,(s.Space,(s.From,(s.To,(s.Locks,()))))))) (fun t=>⟨t.1,t.2.1,t.2.2.1,t.2.2.2.1,t.2.2.2.2.1,t.2.2.2.2.2.1⟩) (fun _=>rfl)
def aH.ok (y:aH):Prop:=gS y.Name∧(gI .i64) y.Kind∧gS y.Space∧(gI .i64) y.From∧(gI .i64) y.To∧(gL gS) y.Locks∧True
theorem aH.l0:Lens aH.rep Rep.str 0 (fun x=>x.Name) (fun x y=>{ x with Name:=y }):=(Lens.wY _ _ _ _).comp (Lens.fst _ _)
theorem aH.l1:Lens aH.rep bZ 1 (fun x=>x.Kind) (fun x y=>{ x with Kind:=y }):=(Lens.wY _ _ _ _).comp ((Lens.snd _ _).comp (Lens.fst _ _))
theorem aH.l2:Lens aH.rep Rep.str 2 (fun x=>x.Space) (fun x y=>{ x with Space:=y }):=(Lens.wY _ _ _ _).comp ((Lens.snd _ _).comp ((Lens.snd _ _).comp (Lens.fst _ _)))
theorem aH.l3:Lens aH.rep bZ 3 (fun x=>x.From) (fun x y=>{ x with From:=y }):=(Lens.wY _ _ _ _).comp ((Lens.snd _ _).comp ((Lens.snd _ _).comp ((Lens.snd _ _).comp (Lens.fst _ _))))
theorem aH.l4:Lens aH.rep bZ 4 (fun x=>x.To) (fun x y=>{ x with To:=y }):=(Lens.wY _ _ _ _).comp ((Lens.snd _ _).comp ((Lens.snd _ _).comp ((Lens.snd _ _).comp ((Lens.snd _ _).comp (Lens.fst _ _)))))
theorem aH.l5:Lens aH.rep (Rep.slice Rep.str) 5 (fun x=>x.Locks) (fun x y=>{ x with Locks:=y }):=(Lens.wY _ _ _ _).comp ((Lens.snd _ _).comp ((Lens.snd _ _).comp ((Lens.snd _ _).comp ((Lens.snd _ _).comp ((Lens.snd _ _).comp (Lens.fst _ _))))))
structure GPermitPlan where
  bM:(List dH)
  dY:(List cZ)
  ak:(List aH)
  gB:Int
def GPermitPlan.rep:Rep GPermitPlan:=Rep.wY (Rep.prod (Rep.slice dH.rep) (Rep.prod (Rep.slice cZ.rep) (Rep.prod (Rep.slice aH.rep) (Rep.prod bZ Rep.unit)))) (fun s=>(s.bM,(s.dY,(s.ak,(s.gB,()))))) (fun t=>⟨t.1,t.2.1,t.2.2.1,t.2.2.2.1⟩) (fun _=>rfl)
def GPermitPlan.ok (y:GPermitPlan):Prop:=(gL dH.ok) y.bM∧(gL cZ.ok) y.dY∧(gL aH.ok) y.ak∧(gI .i64) y.gB∧True
theorem GPermitPlan.l0:Lens GPermitPlan.rep (Rep.slice dH.rep) 0 (fun x=>x.bM) (fun x y=>{ x with bM:=y }):=(Lens.wY _ _ _ _).comp (Lens.fst _ _)
theorem GPermitPlan.l1:Lens GPermitPlan.rep (Rep.slice cZ.rep) 1 (fun x=>x.dY) (fun x y=>{ x with dY:=y }):=(Lens.wY _ _ _ _).comp ((Lens.snd _ _).comp (Lens.fst _ _))
theorem GPermitPlan.l2:Lens GPermitPlan.rep (Rep.slice aH.rep) 2 (fun x=>x.ak) (fun x y=>{ x with ak:=y }):=(Lens.wY _ _ _ _).comp ((Lens.snd _ _).comp ((Lens.snd _ _).comp (Lens.fst _ _)))
theorem GPermitPlan.l3:Lens GPermitPlan.rep bZ 3 (fun x=>x.gB) (fun x y=>{ x with gB:=y }):=(Lens.wY _ _ _ _).comp ((Lens.snd _ _).comp ((Lens.snd _ _).comp ((Lens.snd _ _).comp (Lens.fst _ _))))
structure GEvent where
  At:Int
  Op:Int
  Name:Str
  Space:Str
  Person:Str
  qx:Int
  IW:Int
  To:Int
def GEvent.rep:Rep GEvent:=Rep.wY (Rep.prod bZ (Rep.prod bZ (Rep.prod Rep.str (Rep.prod Rep.str (Rep.prod Rep.str (Rep.prod bZ (Rep.prod bZ (Rep.prod bZ Rep.unit)))))))) (fun s=>(s.At,(s.Op,(s.Name,(s.Space,(s.Person,(s.qx,(s.IW,(s.To,()))))))))) (fun t=>⟨t.1,t.2.1,t.2.2.1,t.2.2.2.1,t.2.2.2.2.1,t.2.2.2.2.2.1,t.2.2.2.2.2.2.1,t.2.2.2.2.2.2.2.1⟩) (fun _=>rfl)
def GEvent.ok (y:GEvent):Prop:=(gI .i64) y.At∧(gI .i64) y.Op∧gS y.Name∧gS y.Space∧gS y.Person∧(gI .i64) y.qx∧(gI .i64) y.IW∧(gI .i64) y.To∧True
theorem GEvent.l0:Lens GEvent.rep bZ 0 (fun x=>x.At) (fun x y=>{ x with At:=y }):=(Lens.wY _ _ _ _).comp (Lens.fst _ _)
theorem GEvent.l1:Lens GEvent.rep bZ 1 (fun x=>x.Op) (fun x y=>{ x with Op:=y }):=(Lens.wY _ _ _ _).comp ((Lens.snd _ _).comp (Lens.fst _ _))
theorem GEvent.l2:Lens GEvent.rep Rep.str 2 (fun x=>x.Name) (fun x y=>{ x with Name:=y }):=(Lens.wY _ _ _ _).comp ((Lens.snd _ _).comp ((Lens.snd _ _).comp (Lens.fst _ _)))
theorem GEvent.l3:Lens GEvent.rep Rep.str 3 (fun x=>x.Space) (fun x y=>{ x with Space:=y }):=(Lens.wY _ _ _ _).comp ((Lens.snd _ _).comp ((Lens.snd _ _).comp ((Lens.snd _ _).comp (Lens.fst _ _))))
theorem GEvent.l4:Lens GEvent.rep Rep.str 4 (fun x=>x.Person) (fun x y=>{ x with Person:=y }):=(Lens.wY _ _ _ _).comp ((Lens.snd _ _).comp ((Lens.snd _ _).comp ((Lens.snd _ _).comp ((Lens.snd _ _).comp (Lens.fst _ _)))))
theorem GEvent.l5:Lens GEvent.rep bZ 5 (fun x=>x.qx) (fun x y=>{ x with qx:=y }):=(Lens.wY _ _ _ _).comp ((Lens.snd _ _).comp ((Lens.snd _ _).comp ((Lens.snd _ _).comp ((Lens.snd _ _).comp ((Lens.snd _ _).comp (Lens.fst _ _))))))
theorem GEvent.l6:Lens GEvent.rep bZ 6 (fun x=>x.IW) (fun x y=>{ x with IW:=y }):=(Lens.wY _ _ _ _).comp ((Lens.snd _ _).comp ((Lens.snd _ _).comp ((Lens.snd _ _).comp ((Lens.snd _ _).comp ((Lens.snd _ _).comp ((Lens.snd _ _).comp (Lens.fst _ _)))))))
theorem GEvent.l7:Lens GEvent.rep bZ 7 (fun x=>x.To) (fun x y=>{ x with To:=y }):=(Lens.wY _ _ _ _).comp ((Lens.snd _ _).comp ((Lens.snd _ _).comp ((Lens.snd _ _).comp ((Lens.snd _ _).comp ((Lens.snd _ _).comp ((Lens.snd _ _).comp ((Lens.snd _ _).comp (Lens.fst _ _))))))))
structure ai where
  plan:GPermitPlan
  now:Int
  done:(List GEvent)
def ai.rep:Rep (ai×Value×Value×Value):=Rep.wY (Rep.prod GPermitPlan.rep (Rep.prod bZ (Rep.prod Rep.Ic (Rep.prod Rep.Ic (Rep.prod Rep.Ic (Rep.prod (Rep.slice GEvent.rep) Rep.unit)))))) (fun s=>(s.1.plan,(s.1.now,(s.2.1,(s.2.2.1,(s.2.2.2,(s.1.done,()))))))) (fun t=>(⟨t.1,t.2.1,t.2.2.2.2.2.1⟩,t.2.2.1,t.2.2.2.1,t.2.2.2.2.1)) (fun _=>rfl)
theorem ai.l0:Lens ai.rep GPermitPlan.rep 0 (fun x=>x.1.plan) (fun x y=>({ x.1 with plan:=y },x.2)):=(Lens.wY _ _ _ _).comp (Lens.fst _ _)
theorem ai.l1:Lens ai.rep bZ 4 (fun x=>x.1.now) (fun x y=>({ x.1 with now:=y },x.2)):=(Lens.wY _ _ _ _).comp ((Lens.snd _ _).comp (Lens.fst _ _))
theorem ai.l2:Lens ai.rep Rep.Ic 5 (fun x=>x.2.1) (fun x y=>(x.1,y,x.2.2.1,x.2.2.2)):=(Lens.wY _ _ _ _).comp ((Lens.snd _ _).comp ((Lens.snd _ _).comp (Lens.fst _ _)))
theorem ai.l3:Lens ai.rep Rep.Ic 6 (fun x=>x.2.2.1) (fun x y=>(x.1,x.2.1,y,x.2.2.2)):=(Lens.wY _ _ _ _).comp ((Lens.snd _ _).comp ((Lens.snd _ _).comp ((Lens.snd _ _).comp (Lens.fst _ _))))
theorem ai.l4:Lens ai.rep Rep.Ic 7 (fun x=>x.2.2.2) (fun x y=>(x.1,x.2.1,x.2.2.1,y)):=(Lens.wY _ _ _ _).comp ((Lens.snd _ _).comp ((Lens.snd _ _).comp ((Lens.snd _ _).comp ((Lens.snd _ _).comp (Lens.fst _ _)))))
theorem ai.l5:Lens ai.rep (Rep.slice GEvent.rep) 8 (fun x=>x.1.done) (fun x y=>({ x.1 with done:=y },x.2)):=(Lens.wY _ _ _ _).comp ((Lens.snd _ _).comp ((Lens.snd _ _).comp ((Lens.snd _ _).comp ((Lens.snd _ _).comp ((Lens.snd _ _).comp (Lens.fst _ _))))))
structure ah where
  state:Int
  AU:Str
  zF:Int
def ah.rep:Rep ah:=Rep.wY (Rep.prod bZ (Rep.prod Rep.str (Rep.prod bZ Rep.unit))) (fun s=>(s.state,(s.AU,(s.zF,())))) (fun t=>⟨t.1,t.2.1,t.2.2.1⟩) (fun _=>rfl)
def ah.ok (y:ah):Prop:=(gI .i64) y.state∧gS y.AU∧(gI .i64) y.zF∧True
theorem ah.l0:Lens ah.rep bZ 0 (fun x=>x.state) (fun x y=>{ x with state:=y }):=(Lens.wY _ _ _ _).comp (Lens.fst _ _)
theorem ah.l1:Lens ah.rep Rep.str 1 (fun x=>x.AU) (fun x y=>{ x with AU:=y }):=(Lens.wY _ _ _ _).comp ((Lens.snd _ _).comp (Lens.fst _ _))
theorem ah.l2:Lens ah.rep bZ 2 (fun x=>x.zF) (fun x y=>{ x with zF:=y }):=(Lens.wY _ _ _ _).comp ((Lens.snd _ _).comp ((Lens.snd _ _).comp (Lens.fst _ _)))
structure au where
  at_:Int
  oK:Int
  Ro:Int
def au.rep:Rep au:=Rep.wY (Rep.prod bZ (Rep.prod bZ (Rep.prod bZ Rep.unit))) (fun s=>(s.at_,(s.oK,(s.Ro,())))) (fun t=>⟨t.1,t.2.1,t.2.2.1⟩) (fun _=>rfl)
def au.ok (y:au):Prop:=(gI .i64) y.at_∧(gI .i64) y.oK∧(gI .i64) y.Ro∧True
theorem au.l0:Lens au.rep bZ 0 (fun x=>x.at_) (fun x y=>{ x with at_:=y }):=(Lens.wY _ _ _ _).comp (Lens.fst _ _)
theorem au.l1:Lens au.rep bZ 1 (fun x=>x.oK) (fun x y=>{ x with oK:=y }):=(Lens.wY _ _ _ _).comp ((Lens.snd _ _).comp (Lens.fst _ _))
theorem au.l2:Lens au.rep bZ 2 (fun x=>x.Ro) (fun x y=>{ x with Ro:=y }):=(Lens.wY _ _ _ _).comp ((Lens.snd _ _).comp ((Lens.snd _ _).comp (Lens.fst _ _)))
structure bT where
  word:Str
  fields:Str
  states:(List Int)
  Ri:(Option Nat)
def bT.rep:Rep bT:=Rep.wY (Rep.prod Rep.str (Rep.prod Rep.str (Rep.prod (Rep.Jl bZ) (Rep.prod Rep.Sv Rep.unit)))) (fun s=>(s.word,(s.fields,(s.states,(s.Ri,()))))) (fun t=>⟨t.1,t.2.1,t.2.2.1,t.2.2.2.1⟩) (fun _=>rfl)
theorem bT.l0:Lens bT.rep Rep.str 0 (fun x=>x.word) (fun x y=>{ x with word:=y }):=(Lens.wY _ _ _ _).comp (Lens.fst _ _)
theorem bT.l1:Lens bT.rep Rep.str 1 (fun x=>x.fields) (fun x y=>{ x with fields:=y }):=(Lens.wY _ _ _ _).comp ((Lens.snd _ _).comp (Lens.fst _ _))
theorem bT.l2:Lens bT.rep (Rep.Jl bZ) 2 (fun x=>x.states) (fun x y=>{ x with states:=y }):=(Lens.wY _ _ _ _).comp ((Lens.snd _ _).comp ((Lens.snd _ _).comp (Lens.fst _ _)))
theorem bT.l3:Lens bT.rep Rep.Sv 3 (fun x=>x.Ri) (fun x y=>{ x with Ri:=y }):=(Lens.wY _ _ _ _).comp ((Lens.snd _ _).comp ((Lens.snd _ _).comp ((Lens.snd _ _).comp (Lens.fst _ _))))
structure ay where
  names:(List Str)
  e:Int
def ay.rep:Rep ay:=Rep.wY (Rep.prod (Rep.slice Rep.str) (Rep.prod bZ Rep.unit)) (fun s=>(s.names,(s.e,()))) (fun t=>⟨t.1,t.2.1⟩) (fun _=>rfl)
def ay.ok (y:ay):Prop:=(gL gS) y.names∧(gI .i64) y.e∧True
theorem ay.l0:Lens ay.rep (Rep.slice Rep.str) 0 (fun x=>x.names) (fun x y=>{ x with names:=y }):=(Lens.wY _ _ _ _).comp (Lens.fst _ _)
theorem ay.l1:Lens ay.rep bZ 1 (fun x=>x.e) (fun x y=>{ x with e:=y }):=(Lens.wY _ _ _ _).comp ((Lens.snd _ _).comp (Lens.fst _ _))
structure bD where
  Err:Int
  Names:(List Str)
def bD.rep:Rep bD:=Rep.wY (Rep.prod bZ (Rep.prod (Rep.slice Rep.str) Rep.unit)) (fun s=>(s.Err,(s.Names,()))) (fun t=>⟨t.1,t.2.1⟩) (fun _=>rfl)
def bD.ok (y:bD):Prop:=(gI .i64) y.Err∧(gL gS) y.Names∧True
theorem bD.l0:Lens bD.rep bZ 0 (fun x=>x.Err) (fun x y=>{ x with Err:=y }):=(Lens.wY _ _ _ _).comp (Lens.fst _ _)
theorem bD.l1:Lens bD.rep (Rep.slice Rep.str) 1 (fun x=>x.Names) (fun x y=>{ x with Names:=y }):=(Lens.wY _ _ _ _).comp ((Lens.snd _ _).comp (Lens.fst _ _))
structure dQ where
  Done:Bool
  At:Int
  qx:Int
  IW:Int
def dQ.rep:Rep dQ:=Rep.wY (Rep.prod Rep.bool (Rep.prod bZ (Rep.prod bZ (Rep.prod bZ Rep.unit)))) (fun s=>(s.Done,(s.At,(s.qx,(s.IW,()))))) (fun t=>⟨t.1,t.2.1,t.2.2.1,t.2.2.2.1⟩) (fun _=>rfl)
def dQ.ok (y:dQ):Prop:=(fun _=>True) y.Done∧(gI .i64) y.At∧(gI .i64) y.qx∧(gI .i64) y.IW∧True
theorem dQ.l0:Lens dQ.rep Rep.bool 0 (fun x=>x.Done) (fun x y=>{ x with Done:=y }):=(Lens.wY _ _ _ _).comp (Lens.fst _ _)
theorem dQ.l1:Lens dQ.rep bZ 1 (fun x=>x.At) (fun x y=>{ x with At:=y }):=(Lens.wY _ _ _ _).comp ((Lens.snd _ _).comp (Lens.fst _ _))
theorem dQ.l2:Lens dQ.rep bZ 2 (fun x=>x.qx) (fun x y=>{ x with qx:=y }):=(Lens.wY _ _ _ _).comp ((Lens.snd _ _).comp ((Lens.snd _ _).comp (Lens.fst _ _)))
theorem dQ.l3:Lens dQ.rep bZ 3 (fun x=>x.IW) (fun x y=>{ x with IW:=y }):=(Lens.wY _ _ _ _).comp ((Lens.snd _ _).comp ((Lens.snd _ _).comp ((Lens.snd _ _).comp (Lens.fst _ _))))
structure eU where
  Name:Str
  Space:Str
def eU.rep:Rep eU:=Rep.wY (Rep.prod Rep.str (Rep.prod Rep.str Rep.unit)) (fun s=>(s.Name,(s.Space,()))) (fun t=>⟨t.1,t.2.1⟩) (fun _=>rfl)
def eU.ok (y:eU):Prop:=gS y.Name∧gS y.Space∧True
theorem eU.l0:Lens eU.rep Rep.str 0 (fun x=>x.Name) (fun x y=>{ x with Name:=y }):=(Lens.wY _ _ _ _).comp (Lens.fst _ _)
theorem eU.l1:Lens eU.rep Rep.str 1 (fun x=>x.Space) (fun x y=>{ x with Space:=y }):=(Lens.wY _ _ _ _).comp ((Lens.snd _ _).comp (Lens.fst _ _))
structure af where
  P:GPermitPlan
  Now:Int
  cO:(List Int)
  By:(List Str)
  To:(List Int)
  Tests:(List dQ)
  oV:(List eU)
def af.rep:Rep af:=Rep.wY (Rep.prod GPermitPlan.rep (Rep.prod bZ (Rep.prod (Rep.slice bZ) (Rep.prod (Rep.slice Rep.str) (Rep.prod (Rep.slice bZ) (Rep.prod (Rep.slice dQ.rep) (Rep.prod (Rep.slice eU.rep) Rep.unit))))))) (fun s=>(s.P,(s.Now,(s.cO,(s.By,(s.To,(s.Tests,(s.oV,())))))))) (fun t=>⟨t.1,t.2.1,t.2.2.1,t.2.2.2.1,t.2.2.2.2.1,t.2.2.2.2.2.1,t.2.2.2.2.2.2.1⟩) (fun _=>rfl)
def af.ok (y:af):Prop:=GPermitPlan.ok y.P∧(gI .i64) y.Now∧(gL (gI .i64)) y.cO∧(gL gS) y.By∧(gL (gI .i64)) y.To∧(gL dQ.ok) y.Tests∧(gL eU.ok) y.oV∧True
theorem af.l0:Lens af.rep GPermitPlan.rep 0 (fun x=>x.P) (fun x y=>{ x with P:=y }):=(Lens.wY _ _ _ _).comp (Lens.fst _ _)
theorem af.l1:Lens af.rep bZ 4 (fun x=>x.Now) (fun x y=>{ x with Now:=y }):=(Lens.wY _ _ _ _).comp ((Lens.snd _ _).comp (Lens.fst _ _))
theorem af.l2:Lens af.rep (Rep.slice bZ) 5 (fun x=>x.cO) (fun x y=>{ x with cO:=y }):=(Lens.wY _ _ _ _).comp ((Lens.snd _ _).comp ((Lens.snd _ _).comp (Lens.fst _ _)))
theorem af.l3:Lens af.rep (Rep.slice Rep.str) 6 (fun x=>x.By) (fun x y=>{ x with By:=y }):=(Lens.wY _ _ _ _).comp ((Lens.snd _ _).comp ((Lens.snd _ _).comp ((Lens.snd _ _).comp (Lens.fst _ _))))
theorem af.l4:Lens af.rep (Rep.slice bZ) 7 (fun x=>x.To) (fun x y=>{ x with To:=y }):=(Lens.wY _ _ _ _).comp ((Lens.snd _ _).comp ((Lens.snd _ _).comp ((Lens.snd _ _).comp ((Lens.snd _ _).comp (Lens.fst _ _)))))
theorem af.l5:Lens af.rep (Rep.slice dQ.rep) 8 (fun x=>x.Tests) (fun x y=>{ x with Tests:=y }):=(Lens.wY _ _ _ _).comp ((Lens.snd _ _).comp ((Lens.snd _ _).comp ((Lens.snd _ _).comp ((Lens.snd _ _).comp ((Lens.snd _ _).comp (Lens.fst _ _))))))
theorem af.l6:Lens af.rep (Rep.slice eU.rep) 9 (fun x=>x.oV) (fun x y=>{ x with oV:=y }):=(Lens.wY _ _ _ _).comp ((Lens.snd _ _).comp ((Lens.snd _ _).comp ((Lens.snd _ _).comp ((Lens.snd _ _).comp ((Lens.snd _ _).comp ((Lens.snd _ _).comp (Lens.fst _ _)))))))
structure bg where
  E:Int
  Names:(List Str)
def bg.rep:Rep bg:=Rep.wY (Rep.prod bZ (Rep.prod (Rep.slice Rep.str) Rep.unit)) (fun s=>(s.E,(s.Names,()))) (fun t=>⟨t.1,t.2.1⟩) (fun _=>rfl)
def bg.ok (y:bg):Prop:=(gI .i64) y.E∧(gL gS) y.Names∧True
theorem bg.l0:Lens bg.rep bZ 0 (fun x=>x.E) (fun x y=>{ x with E:=y }):=(Lens.wY _ _ _ _).comp (Lens.fst _ _)
theorem bg.l1:Lens bg.rep (Rep.slice Rep.str) 1 (fun x=>x.Names) (fun x y=>{ x with Names:=y }):=(Lens.wY _ _ _ _).comp ((Lens.snd _ _).comp (Lens.fst _ _))
abbrev fP:=dH.rep
abbrev jX:=cZ.rep
abbrev aV:=aH.rep
abbrev bK:=GPermitPlan.rep
abbrev eF:=GEvent.rep
abbrev dn:=ai.rep
abbrev aZ:=ah.rep
abbrev dL:=au.rep
abbrev uf:=bT.rep
abbrev aB:=ay.rep
abbrev bH:=bD.rep
abbrev dJ:=dQ.rep
abbrev iq:=eU.rep
abbrev aC:=af.rep
abbrev dw:=bg.rep
abbrev fC (k:Nat) (g:ai) (a2 a3 a4 v:Value) (x2:(List (Str×ah))) (x3:(List (Str×au))) (x4:(List (Str×Str))):List (Nat×gY):=[(k,iY (eH 110 ai.rep (g,a2,a3,a4) ([⟨8,45,GEvent.rep.sz⟩]:List fD)) v),(k+1,iY (fG fO ah.rep x2) a2),(k+2,iY (fG fO au.rep x3) a3),(k+3,iY (fG fO Rep.str x4) a4)]
abbrev oP0 (k:Nat) (g:ai) (a2 a3 a4 v:Value) (x2:(List (Str×ah))) (x3:(List (Str×au))) (x4:(List (Str×Str))):List (Nat×gY):=[(k,iY (eH 110 ai.rep (g,a2,a3,a4) ([]:List fD)) v),(k+1,iY (fG fO ah.rep x2) a2),(k+2,iY (fG fO au.rep x3) a3),(k+3,iY (fG fO Rep.str x4) a4)]
end Go.KB
