/- Go's types as Lean types. Printed by a program. No condition. -/
import Derived.Test.YtekbfkfjhgfieaaGreatKZf
namespace Go.KB
abbrev r_i8:Rep Int:=Rep.int .i8
abbrev r_i16:Rep Int:=Rep.int .i16
abbrev r_i32:Rep Int:=Rep.int .i32
abbrev bK:Rep Int:=Rep.int .i64
abbrev r_u8:Rep Int:=Rep.int .u8
abbrev r_u16:Rep Int:=Rep.int .u16
abbrev r_u32:Rep Int:=Rep.int .u32
abbrev r_u64:Rep Int:=Rep.int .u64
structure dn where
  Name:Str
  dm:Bool
  Next:(List Str)
def dn.rep:Rep dn:=Rep.uS (Rep.prod Rep.str (Rep.prod Rep.bool (Rep.prod (Rep.slice Rep.str) Rep.unit))) (fun s=>(s.Name,(s.dm,(s.Next,())))) (fun t=>⟨t.1,t.2.1,t.2.2.1⟩) (fun _=>rfl)
def dn.ok (y:dn):Prop:=gS y.Name∧(fun _=>True) y.dm∧(gL gS) y.Next∧True
theorem dn.l0:Lens dn.rep Rep.str 0 (fun x=>x.Name) (fun x y=>{ x with Name:=y }):=(Lens.uS _ _ _ _).comp (Lens.fst _ _)
theorem dn.l1:Lens dn.rep Rep.bool 1 (fun x=>x.dm) (fun x y=>{ x with dm:=y }):=(Lens.uS _ _ _ _).comp ((Lens.snd _ _).comp (Lens.fst _ _))
theorem dn.l2:Lens dn.rep (Rep.slice Rep.str) 2 (fun x=>x.Next) (fun x y=>{ x with Next:=y }):=(Lens.uS _ _ _ _).comp ((Lens.snd _ _).comp ((Lens.snd _ _).comp (Lens.fst _ _)))
structure bT where
  A:Int
  B:Int
  Reach:Int
def bT.rep:Rep bT:=Rep.uS (Rep.prod bK (Rep.prod bK (Rep.prod bK Rep.unit))) (fun s=>(s.A,(s.B,(s.Reach,())))) (fun t=>⟨t.1,t.2.1,t.2.2.1⟩) (fun _=>rfl)
def bT.ok (y:bT):Prop:=(gI .i64) y.A∧(gI .i64) y.B∧(gI .i64) y.Reach∧True
theorem bT.l0:Lens bT.rep bK 0 (fun x=>x.A) (fun x y=>{ x with A:=y }):=(Lens.uS _ _ _ _).comp (Lens.fst _ _)
theorem bT.l1:Lens bT.rep bK 1 (fun x=>x.B) (fun x y=>{ x with B:=y }):=(Lens.uS _ _ _ _).comp ((Lens.snd _ _).comp (Lens.fst _ _))
theorem bT.l2:Lens bT.rep bK 2 (fun x=>x.Reach) (fun x y=>{ x with Reach:=y }):=(Lens.uS _ _ _ _).comp ((Lens.snd _ _).comp ((Lens.snd _ _).comp (Lens.fst _ _)))
structure aG where
  Name:Str
  Kind:Int
  Space:Str
  From:Int
  To:Int
  Locks:(List Str)
def aG.rep:Rep aG:=Rep.uS (Rep.prod Rep.str (Rep.prod bK (Rep.prod Rep.str (Rep.prod bK (Rep.prod bK (Rep.prod (Rep.slice Rep.str) Rep.unit)))))) (fun s=>(s.Name,(s.Kind,(s.Space,(s.From,(s.To,(s.Locks,()))))))) (fun t=>⟨t.1,t.2.1,t.2.2.1,t.2.2.2.1,t.2.2.2.2.1,t.2.2.2.2.2.1⟩) (fun _=>rfl)
def aG.ok (y:aG):Prop:=gS y.Name∧(gI .i64) y.Kind∧gS y.Space∧(gI .i64) y.From∧(gI .i64) y.To∧(gL gS) y.Locks∧True
theorem aG.l0:Lens aG.rep Rep.str 0 (fun x=>x.Name) (fun x y=>{ x with Name:=y }):=(Lens.uS _ _ _ _).comp (Lens.fst _ _)
theorem aG.l1:Lens aG.rep bK 1 (fun x=>x.Kind) (fun x y=>{ x with Kind:=y }):=(Lens.uS _ _ _ _).comp ((Lens.snd _ _).comp (Lens.fst _ _))
theorem aG.l2:Lens aG.rep Rep.str 2 (fun x=>x.Space) (fun x y=>{ x with Space:=y }):=(Lens.uS _ _ _ _).comp ((Lens.snd _ _).comp ((Lens.snd _ _).comp (Lens.fst _ _)))
theorem aG.l3:Lens aG.rep bK 3 (fun x=>x.From) (fun x y=>{ x with From:=y }):=(Lens.uS _ _ _ _).comp ((Lens.snd _ _).comp ((Lens.snd _ _).comp ((Lens.snd _ _).comp (Lens.fst _ _))))
theorem aG.l4:Lens aG.rep bK 4 (fun x=>x.To) (fun x y=>{ x with To:=y }):=(Lens.uS _ _ _ _).comp ((Lens.snd _ _).comp ((Lens.snd _ _).comp ((Lens.snd _ _).comp ((Lens.snd _ _).comp (Lens.fst _ _)))))
theorem aG.l5:Lens aG.rep (Rep.slice Rep.str) 5 (fun x=>x.Locks) (fun x y=>{ x with Locks:=y }):=(Lens.uS _ _ _ _).comp ((Lens.snd _ _).comp ((Lens.snd _ _).comp ((Lens.snd _ _).comp ((Lens.snd _ _).comp ((Lens.snd _ _).comp (Lens.fst _ _))))))
structure GPermitPlan where
  bG:(List dn)
  dR:(List bT)
  aj:(List aG)
  fC:Int
def GPermitPlan.rep:Rep GPermitPlan:=Rep.uS (Rep.prod (Rep.slice dn.rep) (Rep.prod (Rep.slice bT.rep) (Rep.prod (Rep.slice aG.rep) (Rep.prod bK Rep.unit)))) (fun s=>(s.bG,(s.dR,(s.aj,(s.fC,()))))) (fun t=>⟨t.1,t.2.1,t.2.2.1,t.2.2.2.1⟩) (fun _=>rfl)
def GPermitPlan.ok (y:GPermitPlan):Prop:=(gL dn.ok) y.bG∧(gL bT.ok) y.dR∧(gL aG.ok) y.aj∧(gI .i64) y.fC∧True
theorem GPermitPlan.l0:Lens GPermitPlan.rep (Rep.slice dn.rep) 0 (fun x=>x.bG) (fun x y=>{ x with bG:=y }):=(Lens.uS _ _ _ _).comp (Lens.fst _ _)
theorem GPermitPlan.l1:Lens GPermitPlan.rep (Rep.slice bT.rep) 1 (fun x=>x.dR) (fun x y=>{ x with dR:=y }):=(Lens.uS _ _ _ _).comp ((Lens.snd _ _).comp (Lens.fst _ _))
theorem GPermitPlan.l2:Lens GPermitPlan.rep (Rep.slice aG.rep) 2 (fun x=>x.aj) (fun x y=>{ x with aj:=y }):=(Lens.uS _ _ _ _).comp ((Lens.snd _ _).comp ((Lens.snd _ _).comp (Lens.fst _ _)))
theorem GPermitPlan.l3:Lens GPermitPlan.rep bK 3 (fun x=>x.fC) (fun x y=>{ x with fC:=y }):=(Lens.uS _ _ _ _).comp ((Lens.snd _ _).comp ((Lens.snd _ _).comp ((Lens.snd _ _).comp (Lens.fst _ _))))
structure GEvent where
  At:Int
  Op:Int
  Name:Str
  Space:Str
  Person:Str
  nG:Int
  EY:Int
  To:Int
def GEvent.rep:Rep GEvent:=Rep.uS (Rep.prod bK (Rep.prod bK (Rep.prod Rep.str (Rep.prod Rep.str (Rep.prod Rep.str (Rep.prod bK (Rep.prod bK (Rep.prod bK Rep.unit)))))))) (fun s=>(s.At,(s.Op,(s.Name,(s.Space,(s.Person,(s.nG,(s.EY,(s.To,()))))))))) (fun t=>⟨t.1,t.2.1,t.2.2.1,t.2.2.2.1,t.2.2.2.2.1,t.2.2.2.2.2.1,t.2.2.2.2.2.2.1,t.2.2.2.2.2.2.2.1⟩) (fun _=>rfl)
def GEvent.ok (y:GEvent):Prop:=(gI .i64) y.At∧(gI .i64) y.Op∧gS y.Name∧gS y.Space∧gS y.Person∧(gI .i64) y.nG∧(gI .i64) y.EY∧(gI .i64) y.To∧True
theorem GEvent.l0:Lens GEvent.rep bK 0 (fun x=>x.At) (fun x y=>{ x with At:=y }):=(Lens.uS _ _ _ _).comp (Lens.fst _ _)
theorem GEvent.l1:Lens GEvent.rep bK 1 (fun x=>x.Op) (fun x y=>{ x with Op:=y }):=(Lens.uS _ _ _ _).comp ((Lens.snd _ _).comp (Lens.fst _ _))
theorem GEvent.l2:Lens GEvent.rep Rep.str 2 (fun x=>x.Name) (fun x y=>{ x with Name:=y }):=(Lens.uS _ _ _ _).comp ((Lens.snd _ _).comp ((Lens.snd _ _).comp (Lens.fst _ _)))
theorem GEvent.l3:Lens GEvent.rep Rep.str 3 (fun x=>x.Space) (fun x y=>{ x with Space:=y }):=(Lens.uS _ _ _ _).comp ((Lens.snd _ _).comp ((Lens.snd _ _).comp ((Lens.snd _ _).comp (Lens.fst _ _))))
theorem GEvent.l4:Lens GEvent.rep Rep.str 4 (fun x=>x.Person) (fun x y=>{ x with Person:=y }):=(Lens.uS _ _ _ _).comp ((Lens.snd _ _).comp ((Lens.snd _ _).comp ((Lens.snd _ _).comp ((Lens.snd _ _).comp (Lens.fst _ _)))))
theorem GEvent.l5:Lens GEvent.rep bK 5 (fun x=>x.nG) (fun x y=>{ x with nG:=y }):=(Lens.uS _ _ _ _).comp ((Lens.snd _ _).comp ((Lens.snd _ _).comp ((Lens.snd _ _).comp ((Lens.snd _ _).comp ((Lens.snd _ _).comp (Lens.fst _ _))))))
theorem GEvent.l6:Lens GEvent.rep bK 6 (fun x=>x.EY) (fun x y=>{ x with EY:=y }):=(Lens.uS _ _ _ _).comp ((Lens.snd _ _).comp ((Lens.snd _ _).comp ((Lens.snd _ _).comp ((Lens.snd _ _).comp ((Lens.snd _ _).comp ((Lens.snd _ _).comp (Lens.fst _ _)))))))
theorem GEvent.l7:Lens GEvent.rep bK 7 (fun x=>x.To) (fun x y=>{ x with To:=y }):=(Lens.uS _ _ _ _).comp ((Lens.snd _ _).comp ((Lens.snd _ _).comp ((Lens.snd _ _).comp ((Lens.snd _ _).comp ((Lens.snd _ _).comp ((Lens.snd _ _).comp ((Lens.snd _ _).comp (Lens.fst _ _))))))))
structure ai where
  plan:GPermitPlan
  now:Int
  done:(List GEvent)
def ai.rep:Rep (ai×Value×Value×Value):=Rep.uS (Rep.prod GPermitPlan.rep (Rep.prod bK (Rep.prod Rep.FB (Rep.prod Rep.FB (Rep.prod Rep.FB (Rep.prod (Rep.slice GEvent.rep) Rep.unit)))))) (fun s=>(s.1.plan,(s.1.now,(s.2.1,(s.2.2.1,(s.2.2.2,(s.1.done,()))))))) (fun t=>(⟨t.1,t.2.1,t.2.2.2.2.2.1⟩,t.2.2.1,t.2.2.2.1,t.2.2.2.2.1)) (fun _=>rfl)
theorem ai.l0:Lens ai.rep GPermitPlan.rep 0 (fun x=>x.1.plan) (fun x y=>({ x.1 with plan:=y },x.2)):=(Lens.uS _ _ _ _).comp (Lens.fst _ _)
theorem ai.l1:Lens ai.rep bK 4 (fun x=>x.1.now) (fun x y=>({ x.1 with now:=y },x.2)):=(Lens.uS _ _ _ _).comp ((Lens.snd _ _).comp (Lens.fst _ _))
theorem ai.l2:Lens ai.rep Rep.FB 5 (fun x=>x.2.1) (fun x y=>(x.1,y,x.2.2.1,x.2.2.2)):=(Lens.uS _ _ _ _).comp ((Lens.snd _ _).comp ((Lens.snd _ _).comp (Lens.fst _ _)))
theorem ai.l3:Lens ai.rep Rep.FB 6 (fun x=>x.2.2.1) (fun x y=>(x.1,x.2.1,y,x.2.2.2)):=(Lens.uS _ _ _ _).comp ((Lens.snd _ _).comp ((Lens.snd _ _).comp ((Lens.snd _ _).comp (Lens.fst _ _))))
theorem ai.l4:Lens ai.rep Rep.FB 7 (fun x=>x.2.2.2) (fun x y=>(x.1,x.2.1,x.2.2.1,y)):=(Lens.uS _ _ _ _).comp ((Lens.snd _ _).comp ((Lens.snd _ _).comp ((Lens.snd _ _).comp ((Lens.snd _ _).comp (Lens.fst _ _)))))
theorem ai.l5:Lens ai.rep (Rep.slice GEvent.rep) 8 (fun x=>x.1.done) (fun x y=>({ x.1 with done:=y },x.2)):=(Lens.uS _ _ _ _).comp ((Lens.snd _ _).comp ((Lens.snd _ _).comp ((Lens.snd _ _).comp ((Lens.snd _ _).comp ((Lens.snd _ _).comp (Lens.fst _ _))))))
structure ah where
  state:Int
  yY:Str
  xX:Int
def ah.rep:Rep ah:=Rep.uS (Rep.prod bK (Rep.prod Rep.str (Rep.prod bK Rep.unit))) (fun s=>(s.state,(s.yY,(s.xX,())))) (fun t=>⟨t.1,t.2.1,t.2.2.1⟩) (fun _=>rfl)
def ah.ok (y:ah):Prop:=(gI .i64) y.state∧gS y.yY∧(gI .i64) y.xX∧True
theorem ah.l0:Lens ah.rep bK 0 (fun x=>x.state) (fun x y=>{ x with state:=y }):=(Lens.uS _ _ _ _).comp (Lens.fst _ _)
theorem ah.l1:Lens ah.rep Rep.str 1 (fun x=>x.yY) (fun x y=>{ x with yY:=y }):=(Lens.uS _ _ _ _).comp ((Lens.snd _ _).comp (Lens.fst _ _))
theorem ah.l2:Lens ah.rep bK 2 (fun x=>x.xX) (fun x y=>{ x with xX:=y }):=(Lens.uS _ _ _ _).comp ((Lens.snd _ _).comp ((Lens.snd _ _).comp (Lens.fst _ _)))
structure ay where
  at_:Int
  mW:Int
  O9:Int
def ay.rep:Rep ay:=Rep.uS (Rep.prod bK (Rep.prod bK (Rep.prod bK Rep.unit))) (fun s=>(s.at_,(s.mW,(s.O9,())))) (fun t=>⟨t.1,t.2.1,t.2.2.1⟩) (fun _=>rfl)
def ay.ok (y:ay):Prop:=(gI .i64) y.at_∧(gI .i64) y.mW∧(gI .i64) y.O9∧True
theorem ay.l0:Lens ay.rep bK 0 (fun x=>x.at_) (fun x y=>{ x with at_:=y }):=(Lens.uS _ _ _ _).comp (Lens.fst _ _)
theorem ay.l1:Lens ay.rep bK 1 (fun x=>x.mW) (fun x y=>{ x with mW:=y }):=(Lens.uS _ _ _ _).comp ((Lens.snd _ _).comp (Lens.fst _ _))
theorem ay.l2:Lens ay.rep bK 2 (fun x=>x.O9) (fun x y=>{ x with O9:=y }):=(Lens.uS _ _ _ _).comp ((Lens.snd _ _).comp ((Lens.snd _ _).comp (Lens.fst _ _)))
structure bJ where
  word:Str
  fields:Str
  states:(List Int)
  O1:(Option Nat)
def bJ.rep:Rep bJ:=Rep.uS (Rep.prod Rep.str (Rep.prod Rep.str (Rep.prod (Rep.Gy bK) (Rep.prod Rep.P5 Rep.unit)))) (fun s=>(s.word,(s.fields,(s.states,(s.O1,()))))) (fun t=>⟨t.1,t.2.1,t.2.2.1,t.2.2.2.1⟩) (fun _=>rfl)
theorem bJ.l0:Lens bJ.rep Rep.str 0 (fun x=>x.word) (fun x y=>{ x with word:=y }):=(Lens.uS _ _ _ _).comp (Lens.fst _ _)
theorem bJ.l1:Lens bJ.rep Rep.str 1 (fun x=>x.fields) (fun x y=>{ x with fields:=y }):=(Lens.uS _ _ _ _).comp ((Lens.snd _ _).comp (Lens.fst _ _))
theorem bJ.l2:Lens bJ.rep (Rep.Gy bK) 2 (fun x=>x.states) (fun x y=>{ x with states:=y }):=(Lens.uS _ _ _ _).comp ((Lens.snd _ _).comp ((Lens.snd _ _).comp (Lens.fst _ _)))
theorem bJ.l3:Lens bJ.rep Rep.P5 3 (fun x=>x.O1) (fun x y=>{ x with O1:=y }):=(Lens.uS _ _ _ _).comp ((Lens.snd _ _).comp ((Lens.snd _ _).comp ((Lens.snd _ _).comp (Lens.fst _ _))))
structure au where
  names:(List Str)
  e:Int
def au.rep:Rep au:=Rep.uS (Rep.prod (Rep.slice Rep.str) (Rep.prod bK Rep.unit)) (fun s=>(s.names,(s.e,()))) (fun t=>⟨t.1,t.2.1⟩) (fun _=>rfl)
def au.ok (y:au):Prop:=(gL gS) y.names∧(gI .i64) y.e∧True
theorem au.l0:Lens au.rep (Rep.slice Rep.str) 0 (fun x=>x.names) (fun x y=>{ x with names:=y }):=(Lens.uS _ _ _ _).comp (Lens.fst _ _)
theorem au.l1:Lens au.rep bK 1 (fun x=>x.e) (fun x y=>{ x with e:=y }):=(Lens.uS _ _ _ _).comp ((Lens.snd _ _).comp (Lens.fst _ _))
structure bM where
  Err:Int
  Names:(List Str)
def bM.rep:Rep bM:=Rep.uS (Rep.prod bK (Rep.prod (Rep.slice Rep.str) Rep.unit)) (fun s=>(s.Err,(s.Names,()))) (fun t=>⟨t.1,t.2.1⟩) (fun _=>rfl)
def bM.ok (y:bM):Prop:=(gI .i64) y.Err∧(gL gS) y.Names∧True
theorem bM.l0:Lens bM.rep bK 0 (fun x=>x.Err) (fun x y=>{ x with Err:=y }):=(Lens.uS _ _ _ _).comp (Lens.fst _ _)
theorem bM.l1:Lens bM.rep (Rep.slice Rep.str) 1 (fun x=>x.Names) (fun x y=>{ x with Names:=y }):=(Lens.uS _ _ _ _).comp ((Lens.snd _ _).comp (Lens.fst _ _))
structure dL where
  Done:Bool
  At:Int
  nG:Int
  EY:Int
def dL.rep:Rep dL:=Rep.uS (Rep.prod Rep.bool (Rep.prod bK (Rep.prod bK (Rep.prod bK Rep.unit)))) (fun s=>(s.Done,(s.At,(s.nG,(s.EY,()))))) (fun t=>⟨t.1,t.2.1,t.2.2.1,t.2.2.2.1⟩) (fun _=>rfl)
def dL.ok (y:dL):Prop:=(fun _=>True) y.Done∧(gI .i64) y.At∧(gI .i64) y.nG∧(gI .i64) y.EY∧True
theorem dL.l0:Lens dL.rep Rep.bool 0 (fun x=>x.Done) (fun x y=>{ x with Done:=y }):=(Lens.uS _ _ _ _).comp (Lens.fst _ _)
theorem dL.l1:Lens dL.rep bK 1 (fun x=>x.At) (fun x y=>{ x with At:=y }):=(Lens.uS _ _ _ _).comp ((Lens.snd _ _).comp (Lens.fst _ _))
theorem dL.l2:Lens dL.rep bK 2 (fun x=>x.nG) (fun x y=>{ x with nG:=y }):=(Lens.uS _ _ _ _).comp ((Lens.snd _ _).comp ((Lens.snd _ _).comp (Lens.fst _ _)))
theorem dL.l3:Lens dL.rep bK 3 (fun x=>x.EY) (fun x y=>{ x with EY:=y }):=(Lens.uS _ _ _ _).comp ((Lens.snd _ _).comp ((Lens.snd _ _).comp ((Lens.snd _ _).comp (Lens.fst _ _))))
structure eP where
  Name:Str
  Space:Str
def eP.rep:Rep eP:=Rep.uS (Rep.prod Rep.str (Rep.prod Rep.str Rep.unit)) (fun s=>(s.Name,(s.Space,()))) (fun t=>⟨t.1,t.2.1⟩) (fun _=>rfl)
def eP.ok (y:eP):Prop:=gS y.Name∧gS y.Space∧True
theorem eP.l0:Lens eP.rep Rep.str 0 (fun x=>x.Name) (fun x y=>{ x with Name:=y }):=(Lens.uS _ _ _ _).comp (Lens.fst _ _)
theorem eP.l1:Lens eP.rep Rep.str 1 (fun x=>x.Space) (fun x y=>{ x with Space:=y }):=(Lens.uS _ _ _ _).comp ((Lens.snd _ _).comp (Lens.fst _ _))
structure af where
  P:GPermitPlan
  Now:Int
  bH:(List Int)
  By:(List Str)
  To:(List Int)
  Tests:(List dL)
  nD:(List eP)
def af.rep:Rep af:=Rep.uS (Rep.prod GPermitPlan.rep (Rep.prod bK (Rep.prod (Rep.slice bK) (Rep.prod (Rep.slice Rep.str) (Rep.prod (Rep.slice bK) (Rep.prod (Rep.slice dL.rep) (Rep.prod (Rep.slice eP.rep) Rep.unit))))))) (fun s=>(s.P,(s.Now,(s.bH,(s.By,(s.To,(s.Tests,(s.nD,())))))))) (fun t=>⟨t.1,t.2.1,t.2.2.1,t.2.2.2.1,t.2.2.2.2.1,t.2.2.2.2.2.1,t.2.2.2.2.2.2.1⟩) (fun _=>rfl)
def af.ok (y:af):Prop:=GPermitPlan.ok y.P∧(gI .i64) y.Now∧(gL (gI .i64)) y.bH∧(gL gS) y.By∧(gL (gI .i64)) y.To∧(gL dL.ok) y.Tests∧(gL eP.ok) y.nD∧True
theorem af.l0:Lens af.rep GPermitPlan.rep 0 (fun x=>x.P) (fun x y=>{ x with P:=y }):=(Lens.uS _ _ _ _).comp (Lens.fst _ _)
theorem af.l1:Lens af.rep bK 4 (fun x=>x.Now) (fun x y=>{ x with Now:=y }):=(Lens.uS _ _ _ _).comp ((Lens.snd _ _).comp (Lens.fst _ _))
theorem af.l2:Lens af.rep (Rep.slice bK) 5 (fun x=>x.bH) (fun x y=>{ x with bH:=y }):=(Lens.uS _ _ _ _).comp ((Lens.snd _ _).comp ((Lens.snd _ _).comp (Lens.fst _ _)))
theorem af.l3:Lens af.rep (Rep.slice Rep.str) 6 (fun x=>x.By) (fun x y=>{ x with By:=y }):=(Lens.uS _ _ _ _).comp ((Lens.snd _ _).comp ((Lens.snd _ _).comp ((Lens.snd _ _).comp (Lens.fst _ _))))
theorem af.l4:Lens af.rep (Rep.slice bK) 7 (fun x=>x.To) (fun x y=>{ x with To:=y }):=(Lens.uS _ _ _ _).comp ((Lens.snd _ _).comp ((Lens.snd _ _).comp ((Lens.snd _ _).comp ((Lens.snd _ _).comp (Lens.fst _ _)))))
theorem af.l5:Lens af.rep (Rep.slice dL.rep) 8 (fun x=>x.Tests) (fun x y=>{ x with Tests:=y }):=(Lens.uS _ _ _ _).comp ((Lens.snd _ _).comp ((Lens.snd _ _).comp ((Lens.snd _ _).comp ((Lens.snd _ _).comp ((Lens.snd _ _).comp (Lens.fst _ _))))))
theorem af.l6:Lens af.rep (Rep.slice eP.rep) 9 (fun x=>x.nD) (fun x y=>{ x with nD:=y }):=(Lens.uS _ _ _ _).comp ((Lens.snd _ _).comp ((Lens.snd _ _).comp ((Lens.snd _ _).comp ((Lens.snd _ _).comp ((Lens.snd _ _).comp ((Lens.snd _ _).comp (Lens.fst _ _)))))))
structure aO where
  E:Int
  Names:(List Str)
def aO.rep:Rep aO:=Rep.uS (Rep.prod bK (Rep.prod (Rep.slice Rep.str) Rep.unit)) (fun s=>(s.E,(s.Names,()))) (fun t=>⟨t.1,t.2.1⟩) (fun _=>rfl)
def aO.ok (y:aO):Prop:=(gI .i64) y.E∧(gL gS) y.Names∧True
theorem aO.l0:Lens aO.rep bK 0 (fun x=>x.E) (fun x y=>{ x with E:=y }):=(Lens.uS _ _ _ _).comp (Lens.fst _ _)
theorem aO.l1:Lens aO.rep (Rep.slice Rep.str) 1 (fun x=>x.Names) (fun x y=>{ x with Names:=y }):=(Lens.uS _ _ _ _).comp ((Lens.snd _ _).comp (Lens.fst _ _))
abbrev fA:=dn.rep
abbrev jk:=bT.rep
abbrev aS:=aG.rep
abbrev bg:=GPermitPlan.rep
abbrev dB:=GEvent.rep
abbrev bZ:=ai.rep
abbrev aW:=ah.rep
abbrev dw:=ay.rep
abbrev rf:=bJ.rep
abbrev aA:=au.rep
abbrev dD:=bM.rep
abbrev bU:=dL.rep
abbrev ig:=eP.rep
abbrev ax:=af.rep
abbrev aV:=aO.rep
abbrev fK (k:Nat) (g:ai) (a2 a3 a4 v:Value) (x2:(List (Str×ah))) (x3:(List (Str×ay))) (x4:(List (Str×Str))):List (Nat×gq):=[(k,iF (di 110 ai.rep (g,a2,a3,a4) ([⟨8,45,GEvent.rep.sz⟩]:List dA)) v),(k+1,iF (dZ eu ah.rep x2) a2),(k+2,iF (dZ eu ay.rep x3) a3),(k+3,iF (dZ eu Rep.str x4) a4)]
abbrev oP0 (k:Nat) (g:ai) (a2 a3 a4 v:Value) (x2:(List (Str×ah))) (x3:(List (Str×ay))) (x4:(List (Str×Str))):List (Nat×gq):=[(k,iF (di 110 ai.rep (g,a2,a3,a4) ([]:List dA)) v),(k+1,iF (dZ eu ah.rep x2) a2),(k+2,iF (dZ eu ay.rep x3) a3),(k+3,iF (dZ eu Rep.str x4) a4)]
end Go.KB
