/- Go's types as Lean types. Printed by a program. No condition. -/
import Derived.Test.YtalkbgomndhkmaaGreatKZf
namespace Go.KB
abbrev r_i8:Rep Int:=Rep.int .i8
abbrev r_i16:Rep Int:=Rep.int .i16
abbrev r_i32:Rep Int:=Rep.int .i32
abbrev gX:Rep Int:=Rep.int .i64
abbrev r_u8:Rep Int:=Rep.int .u8
abbrev r_u16:Rep Int:=Rep.int .u16
abbrev r_u32:Rep Int:=Rep.int .u32
abbrev r_u64:Rep Int:=Rep.int .u64
structure bW where
  Name:Str
  lG:Bool
  Next:(List Str)
def bW.rep:Rep bW:=Rep.vY (Rep.prod Rep.str (Rep.prod Rep.bool (Rep.prod (Rep.slice Rep.str) Rep.unit))) (fun s=>(s.Name,(s.lG,(s.Next,())))) (fun t=>⟨t.1,t.2.1,t.2.2.1⟩) (fun _=>rfl)
def bW.ok (y:bW):Prop:=gS y.Name∧(fun _=>True) y.lG∧(gL gS) y.Next∧True
theorem bW.l0:Lens bW.rep Rep.str 0 (fun x=>x.Name) (fun x y=>{ x with Name:=y }):=(Lens.vY _ _ _ _).comp (Lens.fst _ _)
theorem bW.l1:Lens bW.rep Rep.bool 1 (fun x=>x.lG) (fun x y=>{ x with lG:=y }):=(Lens.vY _ _ _ _).comp ((Lens.snd _ _).comp (Lens.fst _ _))
theorem bW.l2:Lens bW.rep (Rep.slice Rep.str) 2 (fun x=>x.Next) (fun x y=>{ x with Next:=y }):=(Lens.vY _ _ _ _).comp ((Lens.snd _ _).comp ((Lens.snd _ _).comp (Lens.fst _ _)))
structure bG where
  A:Int
  B:Int
  Reach:Int
def bG.rep:Rep bG:=Rep.vY (Rep.prod gX (Rep.prod gX (Rep.prod gX Rep.unit))) (fun s=>(s.A,(s.B,(s.Reach,())))) (fun t=>⟨t.1,t.2.1,t.2.2.1⟩) (fun _=>rfl)
def bG.ok (y:bG):Prop:=(gI .i64) y.A∧(gI .i64) y.B∧(gI .i64) y.Reach∧True
theorem bG.l0:Lens bG.rep gX 0 (fun x=>x.A) (fun x y=>{ x with A:=y }):=(Lens.vY _ _ _ _).comp (Lens.fst _ _)
theorem bG.l1:Lens bG.rep gX 1 (fun x=>x.B) (fun x y=>{ x with B:=y }):=(Lens.vY _ _ _ _).comp ((Lens.snd _ _).comp (Lens.fst _ _))
theorem bG.l2:Lens bG.rep gX 2 (fun x=>x.Reach) (fun x y=>{ x with Reach:=y }):=(Lens.vY _ _ _ _).comp ((Lens.snd _ _).comp ((Lens.snd _ _).comp (Lens.fst _ _)))
structure aC where
  Name:Str
  Kind:Int
  Space:Str
  From:Int
  To:Int
  Locks:(List Str)
def aC.rep:Rep aC:=Rep.vY (Rep.prod Rep.str (Rep.prod gX (Rep.prod Rep.str (Rep.prod gX (Rep.prod gX (Rep.prod (Rep.slice Rep.str) Rep.unit)))))) (fun s=>(s.Name,(s.Kind,(s.Space,(s.From,(s.To,(s.Locks,()))))))) (fun t=>⟨t.1,t.2.1,t.2.2.1,t.2.2.2.1,t.2.2.2.2.1,t.2.2.2.2.2.1⟩) (fun _=>rfl)
def aC.ok (y:aC):Prop:=gS y.Name∧(gI .i64) y.Kind∧gS y.Space∧(gI .i64) y.From∧(gI .i64) y.To∧(gL gS) y.Locks∧True
theorem aC.l0:Lens aC.rep Rep.str 0 (fun x=>x.Name) (fun x y=>{ x with Name:=y }):=(Lens.vY _ _ _ _).comp (Lens.fst _ _)
theorem aC.l1:Lens aC.rep gX 1 (fun x=>x.Kind) (fun x y=>{ x with Kind:=y }):=(Lens.vY _ _ _ _).comp ((Lens.snd _ _).comp (Lens.fst _ _))
theorem aC.l2:Lens aC.rep Rep.str 2 (fun x=>x.Space) (fun x y=>{ x with Space:=y }):=(Lens.vY _ _ _ _).comp ((Lens.snd _ _).comp ((Lens.snd _ _).comp (Lens.fst _ _)))
theorem aC.l3:Lens aC.rep gX 3 (fun x=>x.From) (fun x y=>{ x with From:=y }):=(Lens.vY _ _ _ _).comp ((Lens.snd _ _).comp ((Lens.snd _ _).comp ((Lens.snd _ _).comp (Lens.fst _ _))))
theorem aC.l4:Lens aC.rep gX 4 (fun x=>x.To) (fun x y=>{ x with To:=y }):=(Lens.vY _ _ _ _).comp ((Lens.snd _ _).comp ((Lens.snd _ _).comp ((Lens.snd _ _).comp ((Lens.snd _ _).comp (Lens.fst _ _)))))
theorem aC.l5:Lens aC.rep (Rep.slice Rep.str) 5 (fun x=>x.Locks) (fun x y=>{ x with Locks:=y }):=(Lens.vY _ _ _ _).comp ((Lens.snd _ _).comp ((Lens.snd _ _).comp ((Lens.snd _ _).comp ((Lens.snd _ _).comp ((Lens.snd _ _).comp (Lens.fst _ _))))))
structure GPermitPlan where
  bU:(List bW)
  cZ:(List bG)
  ay:(List aC)
  dU:Int
def GPermitPlan.rep:Rep GPermitPlan:=Rep.vY (Rep.prod (Rep.slice bW.rep) (Rep.prod (Rep.slice bG.rep) (Rep.prod (Rep.slice aC.rep) (Rep.prod gX Rep.unit)))) (fun s=>(s.bU,(s.cZ,(s.ay,(s.dU,()))))) (fun t=>⟨t.1,t.2.1,t.2.2.1,t.2.2.2.1⟩) (fun _=>rfl)
def GPermitPlan.ok (y:GPermitPlan):Prop:=(gL bW.ok) y.bU∧(gL bG.ok) y.cZ∧(gL aC.ok) y.ay∧(gI .i64) y.dU∧True
theorem GPermitPlan.l0:Lens GPermitPlan.rep (Rep.slice bW.rep) 0 (fun x=>x.bU) (fun x y=>{ x with bU:=y }):=(Lens.vY _ _ _ _).comp (Lens.fst _ _)
theorem GPermitPlan.l1:Lens GPermitPlan.rep (Rep.slice bG.rep) 1 (fun x=>x.cZ) (fun x y=>{ x with cZ:=y }):=(Lens.vY _ _ _ _).comp ((Lens.snd _ _).comp (Lens.fst _ _))
theorem GPermitPlan.l2:Lens GPermitPlan.rep (Rep.slice aC.rep) 2 (fun x=>x.ay) (fun x y=>{ x with ay:=y }):=(Lens.vY _ _ _ _).comp ((Lens.snd _ _).comp ((Lens.snd _ _).comp (Lens.fst _ _)))
theorem GPermitPlan.l3:Lens GPermitPlan.rep gX 3 (fun x=>x.dU) (fun x y=>{ x with dU:=y }):=(Lens.vY _ _ _ _).comp ((Lens.snd _ _).comp ((Lens.snd _ _).comp ((Lens.snd _ _).comp (Lens.fst _ _))))
structure bP where
  At:Int
  Op:Int
  Name:Str
  Space:Str
  Person:Str
  AA:Int
  Um:Int
  To:Int
def bP.rep:Rep bP:=Rep.vY (Rep.prod gX (Rep.prod gX (Rep.prod Rep.str (Rep.prod Rep.str (Rep.prod Rep.str (Rep.prod gX (Rep.prod gX (Rep.prod gX Rep.unit)))))))) (fun s=>(s.At,(s.Op,(s.Name,(s.Space,(s.Person,(s.AA,(s.Um,(s.To,()))))))))) (fun t=>⟨t.1,t.2.1,t.2.2.1,t.2.2.2.1,t.2.2.2.2.1,t.2.2.2.2.2.1,t.2.2.2.2.2.2.1,t.2.2.2.2.2.2.2.1⟩) (fun _=>rfl)
def bP.ok (y:bP):Prop:=(gI .i64) y.At∧(gI .i64) y.Op∧gS y.Name∧gS y.Space∧gS y.Person∧(gI .i64) y.AA∧(gI .i64) y.Um∧(gI .i64) y.To∧True
theorem bP.l0:Lens bP.rep gX 0 (fun x=>x.At) (fun x y=>{ x with At:=y }):=(Lens.vY _ _ _ _).comp (Lens.fst _ _)
theorem bP.l1:Lens bP.rep gX 1 (fun x=>x.Op) (fun x y=>{ x with Op:=y }):=(Lens.vY _ _ _ _).comp ((Lens.snd _ _).comp (Lens.fst _ _))
theorem bP.l2:Lens bP.rep Rep.str 2 (fun x=>x.Name) (fun x y=>{ x with Name:=y }):=(Lens.vY _ _ _ _).comp ((Lens.snd _ _).comp ((Lens.snd _ _).comp (Lens.fst _ _)))
theorem bP.l3:Lens bP.rep Rep.str 3 (fun x=>x.Space) (fun x y=>{ x with Space:=y }):=(Lens.vY _ _ _ _).comp ((Lens.snd _ _).comp ((Lens.snd _ _).comp ((Lens.snd _ _).comp (Lens.fst _ _))))
theorem bP.l4:Lens bP.rep Rep.str 4 (fun x=>x.Person) (fun x y=>{ x with Person:=y }):=(Lens.vY _ _ _ _).comp ((Lens.snd _ _).comp ((Lens.snd _ _).comp ((Lens.snd _ _).comp ((Lens.snd _ _).comp (Lens.fst _ _)))))
theorem bP.l5:Lens bP.rep gX 5 (fun x=>x.AA) (fun x y=>{ x with AA:=y }):=(Lens.vY _ _ _ _).comp ((Lens.snd _ _).comp ((Lens.snd _ _).comp ((Lens.snd _ _).comp ((Lens.snd _ _).comp ((Lens.snd _ _).comp (Lens.fst _ _))))))
theorem bP.l6:Lens bP.rep gX 6 (fun x=>x.Um) (fun x y=>{ x with Um:=y }):=(Lens.vY _ _ _ _).comp ((Lens.snd _ _).comp ((Lens.snd _ _).comp ((Lens.snd _ _).comp ((Lens.snd _ _).comp ((Lens.snd _ _).comp ((Lens.snd _ _).comp (Lens.fst _ _)))))))
theorem bP.l7:Lens bP.rep gX 7 (fun x=>x.To) (fun x y=>{ x with To:=y }):=(Lens.vY _ _ _ _).comp ((Lens.snd _ _).comp ((Lens.snd _ _).comp ((Lens.snd _ _).comp ((Lens.snd _ _).comp ((Lens.snd _ _).comp ((Lens.snd _ _).comp ((Lens.snd _ _).comp (Lens.fst _ _))))))))
structure af where
  plan:GPermitPlan
  now:Int
  done:(List bP)
def af.rep:Rep (af×Value×Value×Value):=Rep.vY (Rep.prod GPermitPlan.rep (Rep.prod gX (Rep.prod Rep.BP (Rep.prod Rep.BP (Rep.prod Rep.BP (Rep.prod (Rep.slice bP.rep) Rep.unit)))))) (fun s=>(s.1.plan,(s.1.now,(s.2.1,(s.2.2.1,(s.2.2.2,(s.1.done,()))))))) (fun t=>(⟨t.1,t.2.1,t.2.2.2.2.2.1⟩,t.2.2.1,t.2.2.2.1,t.2.2.2.2.1)) (fun _=>rfl)
theorem af.l0:Lens af.rep GPermitPlan.rep 0 (fun x=>x.1.plan) (fun x y=>({ x.1 with plan:=y },x.2)):=(Lens.vY _ _ _ _).comp (Lens.fst _ _)
theorem af.l1:Lens af.rep gX 4 (fun x=>x.1.now) (fun x y=>({ x.1 with now:=y },x.2)):=(Lens.vY _ _ _ _).comp ((Lens.snd _ _).comp (Lens.fst _ _))
theorem af.l2:Lens af.rep Rep.BP 5 (fun x=>x.2.1) (fun x y=>(x.1,y,x.2.2.1,x.2.2.2)):=(Lens.vY _ _ _ _).comp ((Lens.snd _ _).comp ((Lens.snd _ _).comp (Lens.fst _ _)))
theorem af.l3:Lens af.rep Rep.BP 6 (fun x=>x.2.2.1) (fun x y=>(x.1,x.2.1,y,x.2.2.2)):=(Lens.vY _ _ _ _).comp ((Lens.snd _ _).comp ((Lens.snd _ _).comp ((Lens.snd _ _).comp (Lens.fst _ _))))
theorem af.l4:Lens af.rep Rep.BP 7 (fun x=>x.2.2.2) (fun x y=>(x.1,x.2.1,x.2.2.1,y)):=(Lens.vY _ _ _ _).comp ((Lens.snd _ _).comp ((Lens.snd _ _).comp ((Lens.snd _ _).comp ((Lens.snd _ _).comp (Lens.fst _ _)))))
theorem af.l5:Lens af.rep (Rep.slice bP.rep) 8 (fun x=>x.1.done) (fun x y=>({ x.1 with done:=y },x.2)):=(Lens.vY _ _ _ _).comp ((Lens.snd _ _).comp ((Lens.snd _ _).comp ((Lens.snd _ _).comp ((Lens.snd _ _).comp ((Lens.snd _ _).comp (Lens.fst _ _))))))
structure ah where
  state:Int
  Hf:Str
  NU:Int
def ah.rep:Rep ah:=Rep.vY (Rep.prod gX (Rep.prod Rep.str (Rep.prod gX Rep.unit))) (fun s=>(s.state,(s.Hf,(s.NU,())))) (fun t=>⟨t.1,t.2.1,t.2.2.1⟩) (fun _=>rfl)
def ah.ok (y:ah):Prop:=(gI .i64) y.state∧gS y.Hf∧(gI .i64) y.NU∧True
theorem ah.l0:Lens ah.rep gX 0 (fun x=>x.state) (fun x y=>{ x with state:=y }):=(Lens.vY _ _ _ _).comp (Lens.fst _ _)
theorem ah.l1:Lens ah.rep Rep.str 1 (fun x=>x.Hf) (fun x y=>{ x with Hf:=y }):=(Lens.vY _ _ _ _).comp ((Lens.snd _ _).comp (Lens.fst _ _))
theorem ah.l2:Lens ah.rep gX 2 (fun x=>x.NU) (fun x y=>{ x with NU:=y }):=(Lens.vY _ _ _ _).comp ((Lens.snd _ _).comp ((Lens.snd _ _).comp (Lens.fst _ _)))
structure ak where
  at_:Int
  lM:Int
  Rk:Int
def ak.rep:Rep ak:=Rep.vY (Rep.prod gX (Rep.prod gX (Rep.prod gX Rep.unit))) (fun s=>(s.at_,(s.lM,(s.Rk,())))) (fun t=>⟨t.1,t.2.1,t.2.2.1⟩) (fun _=>rfl)
def ak.ok (y:ak):Prop:=(gI .i64) y.at_∧(gI .i64) y.lM∧(gI .i64) y.Rk∧True
theorem ak.l0:Lens ak.rep gX 0 (fun x=>x.at_) (fun x y=>{ x with at_:=y }):=(Lens.vY _ _ _ _).comp (Lens.fst _ _)
theorem ak.l1:Lens ak.rep gX 1 (fun x=>x.lM) (fun x y=>{ x with lM:=y }):=(Lens.vY _ _ _ _).comp ((Lens.snd _ _).comp (Lens.fst _ _))
theorem ak.l2:Lens ak.rep gX 2 (fun x=>x.Rk) (fun x y=>{ x with Rk:=y }):=(Lens.vY _ _ _ _).comp ((Lens.snd _ _).comp ((Lens.snd _ _).comp (Lens.fst _ _)))
structure bg where
  word:Str
  fields:Str
  states:(List Int)
  do_:(Option Nat)
def bg.rep:Rep bg:=Rep.vY (Rep.prod Rep.str (Rep.prod Rep.str (Rep.prod (Rep.Dt gX) (Rep.prod Rep.Ky Rep.unit)))) (fun s=>(s.word,(s.fields,(s.states,(s.do_,()))))) (fun t=>⟨t.1,t.2.1,t.2.2.1,t.2.2.2.1⟩) (fun _=>rfl)
theorem bg.l0:Lens bg.rep Rep.str 0 (fun x=>x.word) (fun x y=>{ x with word:=y }):=(Lens.vY _ _ _ _).comp (Lens.fst _ _)
theorem bg.l1:Lens bg.rep Rep.str 1 (fun x=>x.fields) (fun x y=>{ x with fields:=y }):=(Lens.vY _ _ _ _).comp ((Lens.snd _ _).comp (Lens.fst _ _))
theorem bg.l2:Lens bg.rep (Rep.Dt gX) 2 (fun x=>x.states) (fun x y=>{ x with states:=y }):=(Lens.vY _ _ _ _).comp ((Lens.snd _ _).comp ((Lens.snd _ _).comp (Lens.fst _ _)))
theorem bg.l3:Lens bg.rep Rep.Ky 3 (fun x=>x.do_) (fun x y=>{ x with do_:=y }):=(Lens.vY _ _ _ _).comp ((Lens.snd _ _).comp ((Lens.snd _ _).comp ((Lens.snd _ _).comp (Lens.fst _ _))))
structure aj where
  names:(List Str)
  e:Int
def aj.rep:Rep aj:=Rep.vY (Rep.prod (Rep.slice Rep.str) (Rep.prod gX Rep.unit)) (fun s=>(s.names,(s.e,()))) (fun t=>⟨t.1,t.2.1⟩) (fun _=>rfl)
def aj.ok (y:aj):Prop:=(gL gS) y.names∧(gI .i64) y.e∧True
theorem aj.l0:Lens aj.rep (Rep.slice Rep.str) 0 (fun x=>x.names) (fun x y=>{ x with names:=y }):=(Lens.vY _ _ _ _).comp (Lens.fst _ _)
theorem aj.l1:Lens aj.rep gX 1 (fun x=>x.e) (fun x y=>{ x with e:=y }):=(Lens.vY _ _ _ _).comp ((Lens.snd _ _).comp (Lens.fst _ _))
structure dB where
  Err:Int
  Names:(List Str)
def dB.rep:Rep dB:=Rep.vY (Rep.prod gX (Rep.prod (Rep.slice Rep.str) Rep.unit)) (fun s=>(s.Err,(s.Names,()))) (fun t=>⟨t.1,t.2.1⟩) (fun _=>rfl)
def dB.ok (y:dB):Prop:=(gI .i64) y.Err∧(gL gS) y.Names∧True
theorem dB.l0:Lens dB.rep gX 0 (fun x=>x.Err) (fun x y=>{ x with Err:=y }):=(Lens.vY _ _ _ _).comp (Lens.fst _ _)
theorem dB.l1:Lens dB.rep (Rep.slice Rep.str) 1 (fun x=>x.Names) (fun x y=>{ x with Names:=y }):=(Lens.vY _ _ _ _).comp ((Lens.snd _ _).comp (Lens.fst _ _))
abbrev dK:=bW.rep
abbrev iy:=bG.rep
abbrev aJ:=aC.rep
abbrev aK:=GPermitPlan.rep
abbrev dN:=bP.rep
abbrev bT:=af.rep
abbrev aV:=ah.rep
abbrev dm:=ak.rep
abbrev nK:=bg.rep
abbrev ai:=aj.rep
abbrev eU:=dB.rep
abbrev dO (k:Nat) (g:af) (a2 a3 a4 v:Value) (x2:(List (Str×ah))) (x3:(List (Str×ak))) (x4:(List (Str×Str))):List (Nat×dR):=[(k,ig (jl 90 af.rep (g,a2,a3,a4) ([⟨8,47,bP.rep.sz⟩]:List iL)) v),(k+1,ig (dL dQ ah.rep x2) a2),(k+2,ig (dL dQ ak.rep x3) a3),(k+3,ig (dL dQ Rep.str x4) a4)]
abbrev oP0 (k:Nat) (g:af) (a2 a3 a4 v:Value) (x2:(List (Str×ah))) (x3:(List (Str×ak))) (x4:(List (Str×Str))):List (Nat×dR):=[(k,ig (jl 90 af.rep (g,a2,a3,a4) ([]:List iL)) v),(k+1,ig (dL dQ ah.rep x2) a2),(k+2,ig (dL dQ ak.rep x3) a3),(k+3,ig (dL dQ Rep.str x4) a4)]
end Go.KB
