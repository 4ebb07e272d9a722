/- Go's types as Lean types. Printed by a program. No condition. -/
import Derived.Test.YtochfcfkpachcaaGreatDoorKOff
namespace Go.KB
abbrev r_i8:Rep Int:=Rep.int .i8
abbrev r_i16:Rep Int:=Rep.int .i16
abbrev r_i32:Rep Int:=Rep.int .i32
abbrev lH:Rep Int:=Rep.int .i64
abbrev IW:Rep Int:=Rep.int .u8
abbrev r_u16:Rep Int:=Rep.int .u16
abbrev r_u32:Rep Int:=Rep.int .u32
abbrev r_u64:Rep Int:=Rep.int .u64
structure dH where
  Name:Str
  fG:Bool
  Next:(List Str)
def dH.rep:Rep dH:=Rep.zn (Rep.prod Rep.str (Rep.prod Rep.bool (Rep.prod (Rep.slice Rep.str) Rep.unit))) (fun s=>(s.Name,(s.fG,(s.Next,())))) (fun t=>⟨t.1,t.2.1,t.2.2.1⟩) (fun _=>rfl)
def dH.ok (y:dH):Prop:=gS y.Name∧(fun _=>True) y.fG∧(gL gS) y.Next∧True
theorem dH.l0:Lens dH.rep Rep.str 0 (fun x=>x.Name) (fun x y=>{ x with Name:=y }):=(Lens.zn _ _ _ _).comp (Lens.fst _ _)
theorem dH.l1:Lens dH.rep Rep.bool 1 (fun x=>x.fG) (fun x y=>{ x with fG:=y }):=(Lens.zn _ _ _ _).comp ((Lens.snd _ _).comp (Lens.fst _ _))
theorem dH.l2:Lens dH.rep (Rep.slice Rep.str) 2 (fun x=>x.Next) (fun x y=>{ x with Next:=y }):=(Lens.zn _ _ _ _).comp ((Lens.snd _ _).comp ((Lens.snd _ _).comp (Lens.fst _ _)))
structure cZ where
  A:Int
  B:Int
  Reach:Int
def cZ.rep:Rep cZ:=Rep.zn (Rep.prod lH (Rep.prod lH (Rep.prod lH Rep.unit))) (fun s=>(s.A,(s.B,(s.Reach,())))) (fun t=>⟨t.1,t.2.1,t.2.2.1⟩) (fun _=>rfl)
def cZ.ok (y:cZ):Prop:=(gI .i64) y.A∧(gI .i64) y.B∧(gI .i64) y.Reach∧True
theorem cZ.l0:Lens cZ.rep lH 0 (fun x=>x.A) (fun x y=>{ x with A:=y }):=(Lens.zn _ _ _ _).comp (Lens.fst _ _)
theorem cZ.l1:Lens cZ.rep lH 1 (fun x=>x.B) (fun x y=>{ x with B:=y }):=(Lens.zn _ _ _ _).comp ((Lens.snd _ _).comp (Lens.fst _ _))
theorem cZ.l2:Lens cZ.rep lH 2 (fun x=>x.Reach) (fun x y=>{ x with Reach:=y }):=(Lens.zn _ _ _ _).comp ((Lens.snd _ _).comp ((Lens.snd _ _).comp (Lens.fst _ _)))
structure aP where
  Name:Str
  Kind:Int
  Space:Str
  From:Int
  To:Int
  Locks:(List Str)
def aP.rep:Rep aP:=Rep.zn (Rep.prod Rep.str (Rep.prod lH (Rep.prod Rep.str (Rep.prod lH (Rep.prod lH (Rep.prod (Rep.slice Rep.str) Rep.unit)))))) (fun s=>(s.Name,(s.Kind,(s.Space,(s.From,(s.To,(s.Locks,()))))))) (fun t=>⟨t.1,t.2.1,t.2.2.1,t.2.2.2.1,t.2.2.2.2.1,t.2.2.2.2.2.1⟩) (fun _=>rfl)
def aP.ok (y:aP):Prop:=gS y.Name∧(gI .i64) y.Kind∧gS y.Space∧(gI .i64) y.From∧(gI .i64) y.To∧(gL gS) y.Locks∧True
theorem aP.l0:Lens aP.rep Rep.str 0 (fun x=>x.Name) (fun x y=>{ x with Name:=y }):=(Lens.zn _ _ _ _).comp (Lens.fst _ _)
theorem aP.l1:Lens aP.rep lH 1 (fun x=>x.Kind) (fun x y=>{ x with Kind:=y }):=(Lens.zn _ _ _ _).comp ((Lens.snd _ _).comp (Lens.fst _ _))
theorem aP.l2:Lens aP.rep Rep.str 2 (fun x=>x.Space) (fun x y=>{ x with Space:=y }):=(Lens.zn _ _ _ _).comp ((Lens.snd _ _).comp ((Lens.snd _ _).comp (Lens.fst _ _)))
theorem aP.l3:Lens aP.rep lH 3 (fun x=>x.From) (fun x y=>{ x with From:=y }):=(Lens.zn _ _ _ _).comp ((Lens.snd _ _).comp ((Lens.snd _ _).comp ((Lens.snd _ _).comp (Lens.fst _ _))))
theorem aP.l4:Lens aP.rep lH 4 (fun x=>x.To) (fun x y=>{ x with To:=y }):=(Lens.zn _ _ _ _).comp ((Lens.snd _ _).comp ((Lens.snd _ _).comp ((Lens.snd _ _).comp ((Lens.snd _ _).comp (Lens.fst _ _)))))
theorem aP.l5:Lens aP.rep (Rep.slice Rep.str) 5 (fun x=>x.Locks) (fun x y=>{ x with Locks:=y }):=(Lens.zn _ _ _ _).comp ((Lens.snd _ _).comp ((Lens.snd _ _).comp ((Lens.snd _ _).comp ((Lens.snd _ _).comp ((Lens.snd _ _).comp (Lens.fst _ _))))))
structure GPermitPlan where
  dA:(List dH)
  dR:(List cZ)
  aH:(List aP)
  dK:Int
def GPermitPlan.rep:Rep GPermitPlan:=Rep.zn (Rep.prod (Rep.slice dH.rep) (Rep.prod (Rep.slice cZ.rep) (Rep.prod (Rep.slice aP.rep) (Rep.prod lH Rep.unit)))) (fun s=>(s.dA,(s.dR,(s.aH,(s.dK,()))))) (fun t=>⟨t.1,t.2.1,t.2.2.1,t.2.2.2.1⟩) (fun _=>rfl)
def GPermitPlan.ok (y:GPermitPlan):Prop:=(gL dH.ok) y.dA∧(gL cZ.ok) y.dR∧(gL aP.ok) y.aH∧(gI .i64) y.dK∧True
theorem GPermitPlan.l0:Lens GPermitPlan.rep (Rep.slice dH.rep) 0 (fun x=>x.dA) (fun x y=>{ x with dA:=y }):=(Lens.zn _ _ _ _).comp (Lens.fst _ _)
theorem GPermitPlan.l1:Lens GPermitPlan.rep (Rep.slice cZ.rep) 1 (fun x=>x.dR) (fun x y=>{ x with dR:=y }):=(Lens.zn _ _ _ _).comp ((Lens.snd _ _).comp (Lens.fst _ _))
theorem GPermitPlan.l2:Lens GPermitPlan.rep (Rep.slice aP.rep) 2 (fun x=>x.aH) (fun x y=>{ x with aH:=y }):=(Lens.zn _ _ _ _).comp ((Lens.snd _ _).comp ((Lens.snd _ _).comp (Lens.fst _ _)))
theorem GPermitPlan.l3:Lens GPermitPlan.rep lH 3 (fun x=>x.dK) (fun x y=>{ x with dK:=y }):=(Lens.zn _ _ _ _).comp ((Lens.snd _ _).comp ((Lens.snd _ _).comp ((Lens.snd _ _).comp (Lens.fst _ _))))
structure GEvent where
  At:Int
  Op:Int
  Name:Str
  Space:Str
  Person:Str
  rU:Int
  Mc:Int
  To:Int
def GEvent.rep:Rep GEvent:=Rep.zn (Rep.prod lH (Rep.prod lH (Rep.prod Rep.str (Rep.prod Rep.str (Rep.prod Rep.str (Rep.prod lH (Rep.prod lH (Rep.prod lH Rep.unit)))))))) (fun s=>(s.At,(s.Op,(s.Name,(s.Space,(s.Person,(s.rU,(s.Mc,(s.To,()))))))))) (fun t=>⟨t.1,t.2.1,t.2.2.1,t.2.2.2.1,t.2.2.2.2.1,t.2.2.2.2.2.1,t.2.2.2.2.2.2.1,t.2.2.2.2.2.2.2.1⟩) (fun _=>rfl)
def GEvent.ok (y:GEvent):Prop:=(gI .i64) y.At∧(gI .i64) y.Op∧gS y.Name∧gS y.Space∧gS y.Person∧(gI .i64) y.rU∧(gI .i64) y.Mc∧(gI .i64) y.To∧True
theorem GEvent.l0:Lens GEvent.rep lH 0 (fun x=>x.At) (fun x y=>{ x with At:=y }):=(Lens.zn _ _ _ _).comp (Lens.fst _ _)
theorem GEvent.l1:Lens GEvent.rep lH 1 (fun x=>x.Op) (fun x y=>{ x with Op:=y }):=(Lens.zn _ _ _ _).comp ((Lens.snd _ _).comp (Lens.fst _ _))
theorem GEvent.l2:Lens GEvent.rep Rep.str 2 (fun x=>x.Name) (fun x y=>{ x with Name:=y }):=(Lens.zn _ _ _ _).comp ((Lens.snd _ _).comp ((Lens.snd _ _).comp (Lens.fst _ _)))
theorem GEvent.l3:Lens GEvent.rep Rep.str 3 (fun x=>x.Space) (fun x y=>{ x with Space:=y }):=(Lens.zn _ _ _ _).comp ((Lens.snd _ _).comp ((Lens.snd _ _).comp ((Lens.snd _ _).comp (Lens.fst _ _))))
theorem GEvent.l4:Lens GEvent.rep Rep.str 4 (fun x=>x.Person) (fun x y=>{ x with Person:=y }):=(Lens.zn _ _ _ _).comp ((Lens.snd _ _).comp ((Lens.snd _ _).comp ((Lens.snd _ _).comp ((Lens.snd _ _).comp (Lens.fst _ _)))))
theorem GEvent.l5:Lens GEvent.rep lH 5 (fun x=>x.rU) (fun x y=>{ x with rU:=y }):=(Lens.zn _ _ _ _).comp ((Lens.snd _ _).comp ((Lens.snd _ _).comp ((Lens.snd _ _).comp ((Lens.snd _ _).comp ((Lens.snd _ _).comp (Lens.fst _ _))))))
theorem GEvent.l6:Lens GEvent.rep lH 6 (fun x=>x.Mc) (fun x y=>{ x with Mc:=y }):=(Lens.zn _ _ _ _).comp ((Lens.snd _ _).comp ((Lens.snd _ _).comp ((Lens.snd _ _).comp ((Lens.snd _ _).comp ((Lens.snd _ _).comp ((Lens.snd _ _).comp (Lens.fst _ _)))))))
theorem GEvent.l7:Lens GEvent.rep lH 7 (fun x=>x.To) (fun x y=>{ x with To:=y }):=(Lens.zn _ _ _ _).comp ((Lens.snd _ _).comp ((Lens.snd _ _).comp ((Lens.snd _ _).comp ((Lens.snd _ _).comp ((Lens.snd _ _).comp ((Lens.snd _ _).comp ((Lens.snd _ _).comp (Lens.fst _ _))))))))
def GEvent.gI (y:GEvent) (n:Nat):Option Int:=bif Nat.beq n 0 then some y.At else bif Nat.beq n 1 then some y.Op else bif Nat.beq n 5 then some y.rU else bif Nat.beq n 6 then some y.Mc else bif Nat.beq n 7 then some y.To else none
def GEvent.sI (y:GEvent) (n:Nat) (z:Int):Option GEvent:=bif Nat.beq n 0 then some { y with At:=z } else bif Nat.beq n 1 then some { y with Op:=z } else bif Nat.beq n 5 then some { y with rU:=z } else bif Nat.beq n 6 then some { y with Mc:=z } else bif Nat.beq n 7 then some { y with To:=z } else none
theorem GEvent.dgI:Oi GEvent.rep lH GEvent.gI GEvent.sI:=(.cons GEvent.l0 (.cons GEvent.l1 (.cons GEvent.l5 (.cons GEvent.l6 (.cons GEvent.l7 Oi.nil)))))
def GEvent.gS (y:GEvent) (n:Nat):Option Str:=bif Nat.beq n 2 then some y.Name else bif Nat.beq n 3 then some y.Space else bif Nat.beq n 4 then some y.Person else none
def GEvent.sS (y:GEvent) (n:Nat) (z:Str):Option GEvent:=bif Nat.beq n 2 then some { y with Name:=z } else bif Nat.beq n 3 then some { y with Space:=z } else bif Nat.beq n 4 then some { y with Person:=z } else none
theorem GEvent.dgS:Oi GEvent.rep Rep.str GEvent.gS GEvent.sS:=(.cons GEvent.l2 (.cons GEvent.l3 (.cons GEvent.l4 Oi.nil)))
structure af where
  plan:GPermitPlan
  now:Int
  done:(List GEvent)
def af.rep:Rep (af×Value×Value×Value):=Rep.zn (Rep.prod GPermitPlan.rep (Rep.prod lH (Rep.prod Rep.FI (Rep.prod Rep.FI (Rep.prod Rep.FI (Rep.prod (Rep.slice GEvent.rep) Rep.unit)))))) (fun s=>(s.1.plan,(s.1.now,(s.2.1,(s.2.2.1,(s.2.2.2,(s.1.done,()))))))) (fun t=>(⟨t.1,t.2.1,t.2.2.2.2.2.1⟩,t.2.2.1,t.2.2.2.1,t.2.2.2.2.1)) (fun _=>rfl)
theorem af.l0:Lens af.rep GPermitPlan.rep 0 (fun x=>x.1.plan) (fun x y=>({ x.1 with plan:=y },x.2)):=(Lens.zn _ _ _ _).comp (Lens.fst _ _)
theorem af.l1:Lens af.rep lH 4 (fun x=>x.1.now) (fun x y=>({ x.1 with now:=y },x.2)):=(Lens.zn _ _ _ _).comp ((Lens.snd _ _).comp (Lens.fst _ _))
theorem af.l2:Lens af.rep Rep.FI 5 (fun x=>x.2.1) (fun x y=>(x.1,y,x.2.2.1,x.2.2.2)):=(Lens.zn _ _ _ _).comp ((Lens.snd _ _).comp ((Lens.snd _ _).comp (Lens.fst _ _)))
theorem af.l3:Lens af.rep Rep.FI 6 (fun x=>x.2.2.1) (fun x y=>(x.1,x.2.1,y,x.2.2.2)):=(Lens.zn _ _ _ _).comp ((Lens.snd _ _).comp ((Lens.snd _ _).comp ((Lens.snd _ _).comp (Lens.fst _ _))))
theorem af.l4:Lens af.rep Rep.FI 7 (fun x=>x.2.2.2) (fun x y=>(x.1,x.2.1,x.2.2.1,y)):=(Lens.zn _ _ _ _).comp ((Lens.snd _ _).comp ((Lens.snd _ _).comp ((Lens.snd _ _).comp ((Lens.snd _ _).comp (Lens.fst _ _)))))
theorem af.l5:Lens af.rep (Rep.slice GEvent.rep) 8 (fun x=>x.1.done) (fun x y=>({ x.1 with done:=y },x.2)):=(Lens.zn _ _ _ _).comp ((Lens.snd _ _).comp ((Lens.snd _ _).comp ((Lens.snd _ _).comp ((Lens.snd _ _).comp ((Lens.snd _ _).comp (Lens.fst _ _))))))
structure ah where
  state:Int
  IU:Str
  wo:Int
def ah.rep:Rep ah:=Rep.zn (Rep.prod lH (Rep.prod Rep.str (Rep.prod lH Rep.unit))) (fun s=>(s.state,(s.IU,(s.wo,())))) (fun t=>⟨t.1,t.2.1,t.2.2.1⟩) (fun _=>rfl)
def ah.ok (y:ah):Prop:=(gI .i64) y.state∧gS y.IU∧(gI .i64) y.wo∧True
theorem ah.l0:Lens ah.rep lH 0 (fun x=>x.state) (fun x y=>{ x with state:=y }):=(Lens.zn _ _ _ _).comp (Lens.fst _ _)
theorem ah.l1:Lens ah.rep Rep.str 1 (fun x=>x.IU) (fun x y=>{ x with IU:=y }):=(Lens.zn _ _ _ _).comp ((Lens.snd _ _).comp (Lens.fst _ _))
theorem ah.l2:Lens ah.rep lH 2 (fun x=>x.wo) (fun x y=>{ x with wo:=y }):=(Lens.zn _ _ _ _).comp ((Lens.snd _ _).comp ((Lens.snd _ _).comp (Lens.fst _ _)))
structure ai where
  at_:Int
  jk:Int
  Qk:Int
def ai.rep:Rep ai:=Rep.zn (Rep.prod lH (Rep.prod lH (Rep.prod lH Rep.unit))) (fun s=>(s.at_,(s.jk,(s.Qk,())))) (fun t=>⟨t.1,t.2.1,t.2.2.1⟩) (fun _=>rfl)
def ai.ok (y:ai):Prop:=(gI .i64) y.at_∧(gI .i64) y.jk∧(gI .i64) y.Qk∧True
theorem ai.l0:Lens ai.rep lH 0 (fun x=>x.at_) (fun x y=>{ x with at_:=y }):=(Lens.zn _ _ _ _).comp (Lens.fst _ _)
theorem ai.l1:Lens ai.rep lH 1 (fun x=>x.jk) (fun x y=>{ x with jk:=y }):=(Lens.zn _ _ _ _).comp ((Lens.snd _ _).comp (Lens.fst _ _))
theorem ai.l2:Lens ai.rep lH 2 (fun x=>x.Qk) (fun x y=>{ x with Qk:=y }):=(Lens.zn _ _ _ _).comp ((Lens.snd _ _).comp ((Lens.snd _ _).comp (Lens.fst _ _)))
structure bC where
  word:Str
  fields:Str
  states:(List Int)
  Qo:(Option Nat)
def bC.rep:Rep bC:=Rep.zn (Rep.prod Rep.str (Rep.prod Rep.str (Rep.prod (Rep.Hr lH) (Rep.prod Rep.PZ Rep.unit)))) (fun s=>(s.word,(s.fields,(s.states,(s.Qo,()))))) (fun t=>⟨t.1,t.2.1,t.2.2.1,t.2.2.2.1⟩) (fun _=>rfl)
theorem bC.l0:Lens bC.rep Rep.str 0 (fun x=>x.word) (fun x y=>{ x with word:=y }):=(Lens.zn _ _ _ _).comp (Lens.fst _ _)
theorem bC.l1:Lens bC.rep Rep.str 1 (fun x=>x.fields) (fun x y=>{ x with fields:=y }):=(Lens.zn _ _ _ _).comp ((Lens.snd _ _).comp (Lens.fst _ _))
theorem bC.l2:Lens bC.rep (Rep.Hr lH) 2 (fun x=>x.states) (fun x y=>{ x with states:=y }):=(Lens.zn _ _ _ _).comp ((Lens.snd _ _).comp ((Lens.snd _ _).comp (Lens.fst _ _)))
theorem bC.l3:Lens bC.rep Rep.PZ 3 (fun x=>x.Qo) (fun x y=>{ x with Qo:=y }):=(Lens.zn _ _ _ _).comp ((Lens.snd _ _).comp ((Lens.snd _ _).comp ((Lens.snd _ _).comp (Lens.fst _ _))))
structure ax where
  names:(List Str)
  e:Int
def ax.rep:Rep ax:=Rep.zn (Rep.prod (Rep.slice Rep.str) (Rep.prod lH Rep.unit)) (fun s=>(s.names,(s.e,()))) (fun t=>⟨t.1,t.2.1⟩) (fun _=>rfl)
def ax.ok (y:ax):Prop:=(gL gS) y.names∧(gI .i64) y.e∧True
theorem ax.l0:Lens ax.rep (Rep.slice Rep.str) 0 (fun x=>x.names) (fun x y=>{ x with names:=y }):=(Lens.zn _ _ _ _).comp (Lens.fst _ _)
theorem ax.l1:Lens ax.rep lH 1 (fun x=>x.e) (fun x y=>{ x with e:=y }):=(Lens.zn _ _ _ _).comp ((Lens.snd _ _).comp (Lens.fst _ _))
structure bg where
  Err:Int
  Names:(List Str)
def bg.rep:Rep bg:=Rep.zn (Rep.prod lH (Rep.prod (Rep.slice Rep.str) Rep.unit)) (fun s=>(s.Err,(s.Names,()))) (fun t=>⟨t.1,t.2.1⟩) (fun _=>rfl)
def bg.ok (y:bg):Prop:=(gI .i64) y.Err∧(gL gS) y.Names∧True
theorem bg.l0:Lens bg.rep lH 0 (fun x=>x.Err) (fun x y=>{ x with Err:=y }):=(Lens.zn _ _ _ _).comp (Lens.fst _ _)
theorem bg.l1:Lens bg.rep (Rep.slice Rep.str) 1 (fun x=>x.Names) (fun x y=>{ x with Names:=y }):=(Lens.zn _ _ _ _).comp ((Lens.snd _ _).comp (Lens.fst _ _))
abbrev fH:=dH.rep
abbrev jV:=cZ.rep
abbrev aQ:=aP.rep
abbrev bG:=GPermitPlan.rep
abbrev aU:=GEvent.rep
abbrev ak:=af.rep
abbrev aF:=ah.rep
abbrev aT:=ai.rep
abbrev kL:=bC.rep
abbrev aA:=ax.rep
abbrev bF:=bg.rep
abbrev eu (k:Nat) (g:af) (a2 a3 a4 v:Value) (x2:(List (Str×ah))) (x3:(List (Str×ai))) (x4:(List (Str×Str))):List (Nat×gQ):=[(k,dm (dS 67 af.rep (g,a2,a3,a4) ([⟨8,38,GEvent.rep.sz⟩]:List dM)) v),(k+1,dm (bI bK ah.rep x2) a2),(k+2,dm (bI bK ai.rep x3) a3),(k+3,dm (bI bK Rep.str x4) a4)]
abbrev kR (k:Nat) (g:af) (a2 a3 a4 v:Value) (x2:(List (Str×ah))) (x3:(List (Str×ai))) (x4:(List (Str×Str))):List (Nat×gQ):=[(k,dm (dS 67 af.rep (g,a2,a3,a4) ([]:List dM)) v),(k+1,dm (bI bK ah.rep x2) a2),(k+2,dm (bI bK ai.rep x3) a3),(k+3,dm (bI bK Rep.str x4) a4)]
end Go.KB
