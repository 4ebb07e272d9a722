/- Go's types as Lean types. Printed by a program. No condition. -/
import Derived.Test.YtalkbgomndhkmaaGreatKZf
namespace Go.KB
abbrev r_i8:Rep Int:=Rep.int .i8
abbrev r_i16:Rep Int:=Rep.int .i16
abbrev r_i32:Rep Int:=Rep.int .i32
abbrev r_i64:Rep Int:=Rep.int .i64
abbrev r_u8:Rep Int:=Rep.int .u8
abbrev r_u16:Rep Int:=Rep.int .u16
abbrev r_u32:Rep Int:=Rep.int .u32
abbrev r_u64:Rep Int:=Rep.int .u64
structure dm where
  Name:Str
  dX:Bool
  Next:(List Str)
def dm.rep:Rep dm:=Rep.wM (Rep.prod Rep.str (Rep.prod Rep.bool (Rep.prod (Rep.slice Rep.str) Rep.unit))) (fun s=>(s.Name,(s.dX,(s.Next,())))) (fun t=>⟨t.1,t.2.1,t.2.2.1⟩) (fun _=>rfl)
def dm.ok (y:dm):Prop:=gS y.Name∧(fun _=>True) y.dX∧(gL gS) y.Next∧True
theorem dm.l0:Lens dm.rep Rep.str 0 (fun x=>x.Name) (fun x y=>{ x with Name:=y }):=(Lens.wM _ _ _ _).comp (Lens.fst _ _)
theorem dm.l1:Lens dm.rep Rep.bool 1 (fun x=>x.dX) (fun x y=>{ x with dX:=y }):=(Lens.wM _ _ _ _).comp ((Lens.snd _ _).comp (Lens.fst _ _))
theorem dm.l2:Lens dm.rep (Rep.slice Rep.str) 2 (fun x=>x.Next) (fun x y=>{ x with Next:=y }):=(Lens.wM _ _ _ _).comp ((Lens.snd _ _).comp ((Lens.snd _ _).comp (Lens.fst _ _)))
structure bK where
  A:Int
  B:Int
  Reach:Int
def bK.rep:Rep bK:=Rep.wM (Rep.prod r_i64 (Rep.prod r_i64 (Rep.prod r_i64 Rep.unit))) (fun s=>(s.A,(s.B,(s.Reach,())))) (fun t=>⟨t.1,t.2.1,t.2.2.1⟩) (fun _=>rfl)
def bK.ok (y:bK):Prop:=(gI .i64) y.A∧(gI .i64) y.B∧(gI .i64) y.Reach∧True
theorem bK.l0:Lens bK.rep r_i64 0 (fun x=>x.A) (fun x y=>{ x with A:=y }):=(Lens.wM _ _ _ _).comp (Lens.fst _ _)
theorem bK.l1:Lens bK.rep r_i64 1 (fun x=>x.B) (fun x y=>{ x with B:=y }):=(Lens.wM _ _ _ _).comp ((Lens.snd _ _).comp (Lens.fst _ _))
theorem bK.l2:Lens bK.rep r_i64 2 (fun x=>x.Reach) (fun x y=>{ x with Reach:=y }):=(Lens.wM _ _ _ _).comp ((Lens.snd _ _).comp ((Lens.snd _ _).comp (Lens.fst _ _)))
structure aG where
  Name:Str
  Kind:Int
  Space:Str
  From:Int
  To:Int
  Locks:(List Str)
def aG.rep:Rep aG:=Rep.wM (Rep.prod Rep.str (Rep.prod r_i64 (Rep.prod Rep.str (Rep.prod r_i64 (Rep.prod r_i64 (Rep.prod (Rep.slice Rep.str) Rep.unit)))))) (fun s=>(s.Name,(s.Kind,(s.Space,(s.From,(s.To,(s.Locks,()))))))) (fun t=>⟨t.1,t.2.1,t.2.2.1,t.2.2.2.1,t.2.2.2.2.1,t.2.2.2.2.2.1⟩) (fun _=>rfl)
def aG.ok (y:aG):Prop:=gS y.Name∧(gI .i64) y.Kind∧gS y.Space∧(gI .i64) y.From∧(gI .i64) y.To∧(gL gS) y.Locks∧True
theorem aG.l0:Lens aG.rep Rep.str 0 (fun x=>x.Name) (fun x y=>{ x with Name:=y }):=(Lens.wM _ _ _ _).comp (Lens.fst _ _)
theorem aG.l1:Lens aG.rep r_i64 1 (fun x=>x.Kind) (fun x y=>{ x with Kind:=y }):=(Lens.wM _ _ _ _).comp ((Lens.snd _ _).comp (Lens.fst _ _))
theorem aG.l2:Lens aG.rep Rep.str 2 (fun x=>x.Space) (fun x y=>{ x with Space:=y }):=(Lens.wM _ _ _ _).comp ((Lens.snd _ _).comp ((Lens.snd _ _).comp (Lens.fst _ _)))
theorem aG.l3:Lens aG.rep r_i64 3 (fun x=>x.From) (fun x y=>{ x with From:=y }):=(Lens.wM _ _ _ _).comp ((Lens.snd _ _).comp ((Lens.snd _ _).comp ((Lens.snd _ _).comp (Lens.fst _ _))))
theorem aG.l4:Lens aG.rep r_i64 4 (fun x=>x.To) (fun x y=>{ x with To:=y }):=(Lens.wM _ _ _ _).comp ((Lens.snd _ _).comp ((Lens.snd _ _).comp ((Lens.snd _ _).comp ((Lens.snd _ _).comp (Lens.fst _ _)))))
theorem aG.l5:Lens aG.rep (Rep.slice Rep.str) 5 (fun x=>x.Locks) (fun x y=>{ x with Locks:=y }):=(Lens.wM _ _ _ _).comp ((Lens.snd _ _).comp ((Lens.snd _ _).comp ((Lens.snd _ _).comp ((Lens.snd _ _).comp ((Lens.snd _ _).comp (Lens.fst _ _))))))
structure GPermitPlan where
  bP:(List dm)
  dn:(List bK)
  aB:(List aG)
  dN:Int
def GPermitPlan.rep:Rep GPermitPlan:=Rep.wM (Rep.prod (Rep.slice dm.rep) (Rep.prod (Rep.slice bK.rep) (Rep.prod (Rep.slice aG.rep) (Rep.prod r_i64 Rep.unit)))) (fun s=>(s.bP,(s.dn,(s.aB,(s.dN,()))))) (fun t=>⟨t.1,t.2.1,t.2.2.1,t.2.2.2.1⟩) (fun _=>rfl)
def GPermitPlan.ok (y:GPermitPlan):Prop:=(gL dm.ok) y.bP∧(gL bK.ok) y.dn∧(gL aG.ok) y.aB∧(gI .i64) y.dN∧True
theorem GPermitPlan.l0:Lens GPermitPlan.rep (Rep.slice dm.rep) 0 (fun x=>x.bP) (fun x y=>{ x with bP:=y }):=(Lens.wM _ _ _ _).comp (Lens.fst _ _)
theorem GPermitPlan.l1:Lens GPermitPlan.rep (Rep.slice bK.rep) 1 (fun x=>x.dn) (fun x y=>{ x with dn:=y }):=(Lens.wM _ _ _ _).comp ((Lens.snd _ _).comp (Lens.fst _ _))
theorem GPermitPlan.l2:Lens GPermitPlan.rep (Rep.slice aG.rep) 2 (fun x=>x.aB) (fun x y=>{ x with aB:=y }):=(Lens.wM _ _ _ _).comp ((Lens.snd _ _).comp ((Lens.snd _ _).comp (Lens.fst _ _)))
theorem GPermitPlan.l3:Lens GPermitPlan.rep r_i64 3 (fun x=>x.dN) (fun x y=>{ x with dN:=y }):=(Lens.wM _ _ _ _).comp ((Lens.snd _ _).comp ((Lens.snd _ _).comp ((Lens.snd _ _).comp (Lens.fst _ _))))
structure GEvent where
  At:Int
  Op:Int
  Name:Str
  Space:Str
  Person:Str
  vH:Int
  Ot:Int
  To:Int
def GEvent.rep:Rep GEvent:=Rep.wM (Rep.prod r_i64 (Rep.prod r_i64 (Rep.prod Rep.str (Rep.prod Rep.str (Rep.prod Rep.str (Rep.prod r_i64 (Rep.prod r_i64 (Rep.prod r_i64 Rep.unit)))))))) (fun s=>(s.At,(s.Op,(s.Name,(s.Space,(s.Person,(s.vH,(s.Ot,(s.To,()))))))))) (fun t=>⟨t.1,t.2.1,t.2.2.1,t.2.2.2.1,t.2.2.2.2.1,t.2.2.2.2.2.1,t.2.2.2.2.2.2.1,t.2.2.2.2.2.2.2.1⟩) (fun _=>rfl)
def GEvent.ok (y:GEvent):Prop:=(gI .i64) y.At∧(gI .i64) y.Op∧gS y.Name∧gS y.Space∧gS y.Person∧(gI .i64) y.vH∧(gI .i64) y.Ot∧(gI .i64) y.To∧True
theorem GEvent.l0:Lens GEvent.rep r_i64 0 (fun x=>x.At) (fun x y=>{ x with At:=y }):=(Lens.wM _ _ _ _).comp (Lens.fst _ _)
theorem GEvent.l1:Lens GEvent.rep r_i64 1 (fun x=>x.Op) (fun x y=>{ x with Op:=y }):=(Lens.wM _ _ _ _).comp ((Lens.snd _ _).comp (Lens.fst _ _))
theorem GEvent.l2:Lens GEvent.rep Rep.str 2 (fun x=>x.Name) (fun x y=>{ x with Name:=y }):=(Lens.wM _ _ _ _).comp ((Lens.snd _ _).comp ((Lens.snd _ _).comp (Lens.fst _ _)))
theorem GEvent.l3:Lens GEvent.rep Rep.str 3 (fun x=>x.Space) (fun x y=>{ x with Space:=y }):=(Lens.wM _ _ _ _).comp ((Lens.snd _ _).comp ((Lens.snd _ _).comp ((Lens.snd _ _).comp (Lens.fst _ _))))
theorem GEvent.l4:Lens GEvent.rep Rep.str 4 (fun x=>x.Person) (fun x y=>{ x with Person:=y }):=(Lens.wM _ _ _ _).comp ((Lens.snd _ _).comp ((Lens.snd _ _).comp ((Lens.snd _ _).comp ((Lens.snd _ _).comp (Lens.fst _ _)))))
theorem GEvent.l5:Lens GEvent.rep r_i64 5 (fun x=>x.vH) (fun x y=>{ x with vH:=y }):=(Lens.wM _ _ _ _).comp ((Lens.snd _ _).comp ((Lens.snd _ _).comp ((Lens.snd _ _).comp ((Lens.snd _ _).comp ((Lens.snd _ _).comp (Lens.fst _ _))))))
theorem GEvent.l6:Lens GEvent.rep r_i64 6 (fun x=>x.Ot) (fun x y=>{ x with Ot:=y }):=(Lens.wM _ _ _ _).comp ((Lens.snd _ _).comp ((Lens.snd _ _).comp ((Lens.snd _ _).comp ((Lens.snd _ _).comp ((Lens.snd _ _).comp ((Lens.snd _ _).comp (Lens.fst _ _)))))))
theorem GEvent.l7:Lens GEvent.rep r_i64 7 (fun x=>x.To) (fun x y=>{ x with To:=y }):=(Lens.wM _ _ _ _).comp ((Lens.snd _ _).comp ((Lens.snd _ _).comp ((Lens.snd _ _).comp ((Lens.snd _ _).comp ((Lens.snd _ _).comp ((Lens.snd _ _).comp ((Lens.snd _ _).comp (Lens.fst _ _))))))))
structure af where
  plan:GPermitPlan
  now:Int
  done:(List GEvent)
def af.rep:Rep (af×Value×Value×Value):=Rep.wM (Rep.prod GPermitPlan.rep (Rep.prod r_i64 (Rep.prod Rep.BJ (Rep.prod Rep.BJ (Rep.prod Rep.BJ (Rep.prod (Rep.slice GEvent.rep) Rep.unit)))))) (fun s=>(s.1.plan,(s.1.now,(s.2.1,(s.2.2.1,(s.2.2.2,(s.1.done,()))))))) (fun t=>(⟨t.1,t.2.1,t.2.2.2.2.2.1⟩,t.2.2.1,t.2.2.2.1,t.2.2.2.2.1)) (fun _=>rfl)
theorem af.l0:Lens af.rep GPermitPlan.rep 0 (fun x=>x.1.plan) (fun x y=>({ x.1 with plan:=y },x.2)):=(Lens.wM _ _ _ _).comp (Lens.fst _ _)
theorem af.l1:Lens af.rep r_i64 4 (fun x=>x.1.now) (fun x y=>({ x.1 with now:=y },x.2)):=(Lens.wM _ _ _ _).comp ((Lens.snd _ _).comp (Lens.fst _ _))
theorem af.l2:Lens af.rep Rep.BJ 5 (fun x=>x.2.1) (fun x y=>(x.1,y,x.2.2.1,x.2.2.2)):=(Lens.wM _ _ _ _).comp ((Lens.snd _ _).comp ((Lens.snd _ _).comp (Lens.fst _ _)))
theorem af.l3:Lens af.rep Rep.BJ 6 (fun x=>x.2.2.1) (fun x y=>(x.1,x.2.1,y,x.2.2.2)):=(Lens.wM _ _ _ _).comp ((Lens.snd _ _).comp ((Lens.snd _ _).comp ((Lens.snd _ _).comp (Lens.fst _ _))))
theorem af.l4:Lens af.rep Rep.BJ 7 (fun x=>x.2.2.2) (fun x y=>(x.1,x.2.1,x.2.2.1,y)):=(Lens.wM _ _ _ _).comp ((Lens.snd _ _).comp ((Lens.snd _ _).comp ((Lens.snd _ _).comp ((Lens.snd _ _).comp (Lens.fst _ _)))))
theorem af.l5:Lens af.rep (Rep.slice GEvent.rep) 8 (fun x=>x.1.done) (fun x y=>({ x.1 with done:=y },x.2)):=(Lens.wM _ _ _ _).comp ((Lens.snd _ _).comp ((Lens.snd _ _).comp ((Lens.snd _ _).comp ((Lens.snd _ _).comp ((Lens.snd _ _).comp (Lens.fst _ _))))))
structure ah where
  state:Int
  Gi:Str
  Ap:Int
def ah.rep:Rep ah:=Rep.wM (Rep.prod r_i64 (Rep.prod Rep.str (Rep.prod r_i64 Rep.unit))) (fun s=>(s.state,(s.Gi,(s.Ap,())))) (fun t=>⟨t.1,t.2.1,t.2.2.1⟩) (fun _=>rfl)
def ah.ok (y:ah):Prop:=(gI .i64) y.state∧gS y.Gi∧(gI .i64) y.Ap∧True
theorem ah.l0:Lens ah.rep r_i64 0 (fun x=>x.state) (fun x y=>{ x with state:=y }):=(Lens.wM _ _ _ _).comp (Lens.fst _ _)
theorem ah.l1:Lens ah.rep Rep.str 1 (fun x=>x.Gi) (fun x y=>{ x with Gi:=y }):=(Lens.wM _ _ _ _).comp ((Lens.snd _ _).comp (Lens.fst _ _))
theorem ah.l2:Lens ah.rep r_i64 2 (fun x=>x.Ap) (fun x y=>{ x with Ap:=y }):=(Lens.wM _ _ _ _).comp ((Lens.snd _ _).comp ((Lens.snd _ _).comp (Lens.fst _ _)))
structure ai where
  at_:Int
  ku:Int
  KW:Int
def ai.rep:Rep ai:=Rep.wM (Rep.prod r_i64 (Rep.prod r_i64 (Rep.prod r_i64 Rep.unit))) (fun s=>(s.at_,(s.ku,(s.KW,())))) (fun t=>⟨t.1,t.2.1,t.2.2.1⟩) (fun _=>rfl)
def ai.ok (y:ai):Prop:=(gI .i64) y.at_∧(gI .i64) y.ku∧(gI .i64) y.KW∧True
theorem ai.l0:Lens ai.rep r_i64 0 (fun x=>x.at_) (fun x y=>{ x with at_:=y }):=(Lens.wM _ _ _ _).comp (Lens.fst _ _)
theorem ai.l1:Lens ai.rep r_i64 1 (fun x=>x.ku) (fun x y=>{ x with ku:=y }):=(Lens.wM _ _ _ _).comp ((Lens.snd _ _).comp (Lens.fst _ _))
theorem ai.l2:Lens ai.rep r_i64 2 (fun x=>x.KW) (fun x y=>{ x with KW:=y }):=(Lens.wM _ _ _ _).comp ((Lens.snd _ _).comp ((Lens.snd _ _).comp (Lens.fst _ _)))
structure bn where
  word:Str
  fields:Str
  states:(List Int)
  Lm:(Option Nat)
def bn.rep:Rep bn:=Rep.wM (Rep.prod Rep.str (Rep.prod Rep.str (Rep.prod (Rep.Ec r_i64) (Rep.prod Rep.MN Rep.unit)))) (fun s=>(s.word,(s.fields,(s.states,(s.Lm,()))))) (fun t=>⟨t.1,t.2.1,t.2.2.1,t.2.2.2.1⟩) (fun _=>rfl)
theorem bn.l0:Lens bn.rep Rep.str 0 (fun x=>x.word) (fun x y=>{ x with word:=y }):=(Lens.wM _ _ _ _).comp (Lens.fst _ _)
theorem bn.l1:Lens bn.rep Rep.str 1 (fun x=>x.fields) (fun x y=>{ x with fields:=y }):=(Lens.wM _ _ _ _).comp ((Lens.snd _ _).comp (Lens.fst _ _))
theorem bn.l2:Lens bn.rep (Rep.Ec r_i64) 2 (fun x=>x.states) (fun x y=>{ x with states:=y }):=(Lens.wM _ _ _ _).comp ((Lens.snd _ _).comp ((Lens.snd _ _).comp (Lens.fst _ _)))
theorem bn.l3:Lens bn.rep Rep.MN 3 (fun x=>x.Lm) (fun x y=>{ x with Lm:=y }):=(Lens.wM _ _ _ _).comp ((Lens.snd _ _).comp ((Lens.snd _ _).comp ((Lens.snd _ _).comp (Lens.fst _ _))))
structure aj where
  names:(List Str)
  e:Int
def aj.rep:Rep aj:=Rep.wM (Rep.prod (Rep.slice Rep.str) (Rep.prod r_i64 Rep.unit)) (fun s=>(s.names,(s.e,()))) (fun t=>⟨t.1,t.2.1⟩) (fun _=>rfl)
def aj.ok (y:aj):Prop:=(gL gS) y.names∧(gI .i64) y.e∧True
theorem aj.l0:Lens aj.rep (Rep.slice Rep.str) 0 (fun x=>x.names) (fun x y=>{ x with names:=y }):=(Lens.wM _ _ _ _).comp (Lens.fst _ _)
theorem aj.l1:Lens aj.rep r_i64 1 (fun x=>x.e) (fun x y=>{ x with e:=y }):=(Lens.wM _ _ _ _).comp ((Lens.snd _ _).comp (Lens.fst _ _))
structure bW where
  Err:Int
  Names:(List Str)
def bW.rep:Rep bW:=Rep.wM (Rep.prod r_i64 (Rep.prod (Rep.slice Rep.str) Rep.unit)) (fun s=>(s.Err,(s.Names,()))) (fun t=>⟨t.1,t.2.1⟩) (fun _=>rfl)
def bW.ok (y:bW):Prop:=(gI .i64) y.Err∧(gL gS) y.Names∧True
theorem bW.l0:Lens bW.rep r_i64 0 (fun x=>x.Err) (fun x y=>{ x with Err:=y }):=(Lens.wM _ _ _ _).comp (Lens.fst _ _)
theorem bW.l1:Lens bW.rep (Rep.slice Rep.str) 1 (fun x=>x.Names) (fun x y=>{ x with Names:=y }):=(Lens.wM _ _ _ _).comp ((Lens.snd _ _).comp (Lens.fst _ _))
abbrev dW:=dm.rep
abbrev iW:=bK.rep
abbrev aO:=aG.rep
abbrev aU:=GPermitPlan.rep
abbrev aT:=GEvent.rep
abbrev au:=af.rep
abbrev ay:=ah.rep
abbrev aK:=ai.rep
abbrev oP:=bn.rep
abbrev ak:=aj.rep
abbrev fP:=bW.rep
abbrev dK (k:Nat) (g:af) (a2 a3 a4 v:Value) (x2:(List (Str×ah))) (x3:(List (Str×ai))) (x4:(List (Str×Str))):List (Nat×dY):=[(k,cZ (dU 90 af.rep (g,a2,a3,a4) ([⟨8,47,GEvent.rep.sz⟩]:List dM)) v),(k+1,cZ (bf bF ah.rep x2) a2),(k+2,cZ (bf bF ai.rep x3) a3),(k+3,cZ (bf bF Rep.str x4) a4)]
abbrev wY (k:Nat) (g:af) (a2 a3 a4 v:Value) (x2:(List (Str×ah))) (x3:(List (Str×ai))) (x4:(List (Str×Str))):List (Nat×dY):=[(k,cZ (dU 90 af.rep (g,a2,a3,a4) ([]:List dM)) v),(k+1,cZ (bf bF ah.rep x2) a2),(k+2,cZ (bf bF ai.rep x3) a3),(k+3,cZ (bf bF Rep.str x4) a4)]
end Go.KB
