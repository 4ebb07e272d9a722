/- Go's types as Lean types. Printed by a program. No condition. -/
import Derived.Test.YtalkbgomndhkmaaGreatKZf
namespace Go.KB
abbrev r_i8:Rep Int:=Rep.int .i8
abbrev r_i16:Rep Int:=Rep.int .i16
abbrev r_i32:Rep Int:=Rep.int .i32
abbrev bY:Rep Int:=Rep.int .i64
abbrev r_u8:Rep Int:=Rep.int .u8
abbrev r_u16:Rep Int:=Rep.int .u16
abbrev r_u32:Rep Int:=Rep.int .u32
abbrev r_u64:Rep Int:=Rep.int .u64
structure dG where
  Name:Str
  dH:Bool
  Next:(List Str)
def dG.rep:Rep dG:=Rep.vW (Rep.prod Rep.str (Rep.prod Rep.bool (Rep.prod (Rep.slice Rep.str) Rep.unit))) (fun s=>(s.Name,(s.dH,(s.Next,())))) (fun t=>⟨t.1,t.2.1,t.2.2.1⟩) (fun _=>rfl)
def dG.ok (y:dG):Prop:=gS y.Name∧(fun _=>True) y.dH∧(gL gS) y.Next∧True
theorem dG.l0:Lens dG.rep Rep.str 0 (fun x=>x.Name) (fun x y=>{ x with Name:=y }):=(Lens.vW _ _ _ _).comp (Lens.fst _ _)
theorem dG.l1:Lens dG.rep Rep.bool 1 (fun x=>x.dH) (fun x y=>{ x with dH:=y }):=(Lens.vW _ _ _ _).comp ((Lens.snd _ _).comp (Lens.fst _ _))
theorem dG.l2:Lens dG.rep (Rep.slice Rep.str) 2 (fun x=>x.Next) (fun x y=>{ x with Next:=y }):=(Lens.vW _ _ _ _).comp ((Lens.snd _ _).comp ((Lens.snd _ _).comp (Lens.fst _ _)))
structure cu where
  A:Int
  B:Int
  Reach:Int
def cu.rep:Rep cu:=Rep.vW (Rep.prod bY (Rep.prod bY (Rep.prod bY Rep.unit))) (fun s=>(s.A,(s.B,(s.Reach,())))) (fun t=>⟨t.1,t.2.1,t.2.2.1⟩) (fun _=>rfl)
def cu.ok (y:cu):Prop:=(gI .i64) y.A∧(gI .i64) y.B∧(gI .i64) y.Reach∧True
theorem cu.l0:Lens cu.rep bY 0 (fun x=>x.A) (fun x y=>{ x with A:=y }):=(Lens.vW _ _ _ _).comp (Lens.fst _ _)
theorem cu.l1:Lens cu.rep bY 1 (fun x=>x.B) (fun x y=>{ x with B:=y }):=(Lens.vW _ _ _ _).comp ((Lens.snd _ _).comp (Lens.fst _ _))
theorem cu.l2:Lens cu.rep bY 2 (fun x=>x.Reach) (fun x y=>{ x with Reach:=y }):=(Lens.vW _ _ _ _).comp ((Lens.snd _ _).comp ((Lens.snd _ _).comp (Lens.fst _ _)))
structure aH where
  Name:Str
  Kind:Int
  Space:Str
  From:Int
  To:Int
  Locks:(List Str)
def aH.rep:Rep aH:=Rep.vW (Rep.prod Rep.str (Rep.prod bY (Rep.prod Rep.str (Rep.prod bY (Rep.prod bY (Rep.prod (Rep.slice Rep.str) Rep.unit)))))) (fun s=>(s.Name,(s.Kind,(s.Space,(s.From,(s.To,(s.Locks,()))))))) (fun t=>⟨t.1,t.2.1,t.2.2.1,t.2.2.2.1,t.2.2.2.2.1,t.2.2.2.2.2.1⟩) (fun _=>rfl)
def aH.ok (y:aH):Prop:=gS y.Name∧(gI .i64) y.Kind∧gS y.Space∧(gI .i64) y.From∧(gI .i64) y.To∧(gL gS) y.Locks∧True
theorem aH.l0:Lens aH.rep Rep.str 0 (fun x=>x.Name) (fun x y=>{ x with Name:=y }):=(Lens.vW _ _ _ _).comp (Lens.fst _ _)
theorem aH.l1:Lens aH.rep bY 1 (fun x=>x.Kind) (fun x y=>{ x with Kind:=y }):=(Lens.vW _ _ _ _).comp ((Lens.snd _ _).comp (Lens.fst _ _))
theorem aH.l2:Lens aH.rep Rep.str 2 (fun x=>x.Space) (fun x y=>{ x with Space:=y }):=(Lens.vW _ _ _ _).comp ((Lens.snd _ _).comp ((Lens.snd _ _).comp (Lens.fst _ _)))
theorem aH.l3:Lens aH.rep bY 3 (fun x=>x.From) (fun x y=>{ x with From:=y }):=(Lens.vW _ _ _ _).comp ((Lens.snd _ _).comp ((Lens.snd _ _).comp ((Lens.snd _ _).comp (Lens.fst _ _))))
theorem aH.l4:Lens aH.rep bY 4 (fun x=>x.To) (fun x y=>{ x with To:=y }):=(Lens.vW _ _ _ _).comp ((Lens.snd _ _).comp ((Lens.snd _ _).comp ((Lens.snd _ _).comp ((Lens.snd _ _).comp (Lens.fst _ _)))))
theorem aH.l5:Lens aH.rep (Rep.slice Rep.str) 5 (fun x=>x.Locks) (fun x y=>{ x with Locks:=y }):=(Lens.vW _ _ _ _).comp ((Lens.snd _ _).comp ((Lens.snd _ _).comp ((Lens.snd _ _).comp ((Lens.snd _ _).comp ((Lens.snd _ _).comp (Lens.fst _ _))))))
structure GPermitPlan where
  bM:(List dG)
  eG:(List cu)
  aj:(List aH)
  fU:Int
def GPermitPlan.rep:Rep GPermitPlan:=Rep.vW (Rep.prod (Rep.slice dG.rep) (Rep.prod (Rep.slice cu.rep) (Rep.prod (Rep.slice aH.rep) (Rep.prod bY Rep.unit)))) (fun s=>(s.bM,(s.eG,(s.aj,(s.fU,()))))) (fun t=>⟨t.1,t.2.1,t.2.2.1,t.2.2.2.1⟩) (fun _=>rfl)
def GPermitPlan.ok (y:GPermitPlan):Prop:=(gL dG.ok) y.bM∧(gL cu.ok) y.eG∧(gL aH.ok) y.aj∧(gI .i64) y.fU∧True
theorem GPermitPlan.l0:Lens GPermitPlan.rep (Rep.slice dG.rep) 0 (fun x=>x.bM) (fun x y=>{ x with bM:=y }):=(Lens.vW _ _ _ _).comp (Lens.fst _ _)
theorem GPermitPlan.l1:Lens GPermitPlan.rep (Rep.slice cu.rep) 1 (fun x=>x.eG) (fun x y=>{ x with eG:=y }):=(Lens.vW _ _ _ _).comp ((Lens.snd _ _).comp (Lens.fst _ _))
theorem GPermitPlan.l2:Lens GPermitPlan.rep (Rep.slice aH.rep) 2 (fun x=>x.aj) (fun x y=>{ x with aj:=y }):=(Lens.vW _ _ _ _).comp ((Lens.snd _ _).comp ((Lens.snd _ _).comp (Lens.fst _ _)))
theorem GPermitPlan.l3:Lens GPermitPlan.rep bY 3 (fun x=>x.fU) (fun x y=>{ x with fU:=y }):=(Lens.vW _ _ _ _).comp ((Lens.snd _ _).comp ((Lens.snd _ _).comp ((Lens.snd _ _).comp (Lens.fst _ _))))
structure GEvent where
  At:Int
  Op:Int
  Name:Str
  Space:Str
  Person:Str
  oz:Int
  GY:Int
  To:Int
def GEvent.rep:Rep GEvent:=Rep.vW (Rep.prod bY (Rep.prod bY (Rep.prod Rep.str (Rep.prod Rep.str (Rep.prod Rep.str (Rep.prod bY (Rep.prod bY (Rep.prod bY Rep.unit)))))))) (fun s=>(s.At,(s.Op,(s.Name,(s.Space,(s.Person,(s.oz,(s.GY,(s.To,()))))))))) (fun t=>⟨t.1,t.2.1,t.2.2.1,t.2.2.2.1,t.2.2.2.2.1,t.2.2.2.2.2.1,t.2.2.2.2.2.2.1,t.2.2.2.2.2.2.2.1⟩) (fun _=>rfl)
def GEvent.ok (y:GEvent):Prop:=(gI .i64) y.At∧(gI .i64) y.Op∧gS y.Name∧gS y.Space∧gS y.Person∧(gI .i64) y.oz∧(gI .i64) y.GY∧(gI .i64) y.To∧True
theorem GEvent.l0:Lens GEvent.rep bY 0 (fun x=>x.At) (fun x y=>{ x with At:=y }):=(Lens.vW _ _ _ _).comp (Lens.fst _ _)
theorem GEvent.l1:Lens GEvent.rep bY 1 (fun x=>x.Op) (fun x y=>{ x with Op:=y }):=(Lens.vW _ _ _ _).comp ((Lens.snd _ _).comp (Lens.fst _ _))
theorem GEvent.l2:Lens GEvent.rep Rep.str 2 (fun x=>x.Name) (fun x y=>{ x with Name:=y }):=(Lens.vW _ _ _ _).comp ((Lens.snd _ _).comp ((Lens.snd _ _).comp (Lens.fst _ _)))
theorem GEvent.l3:Lens GEvent.rep Rep.str 3 (fun x=>x.Space) (fun x y=>{ x with Space:=y }):=(Lens.vW _ _ _ _).comp ((Lens.snd _ _).comp ((Lens.snd _ _).comp ((Lens.snd _ _).comp (Lens.fst _ _))))
theorem GEvent.l4:Lens GEvent.rep Rep.str 4 (fun x=>x.Person) (fun x y=>{ x with Person:=y }):=(Lens.vW _ _ _ _).comp ((Lens.snd _ _).comp ((Lens.snd _ _).comp ((Lens.snd _ _).comp ((Lens.snd _ _).comp (Lens.fst _ _)))))
theorem GEvent.l5:Lens GEvent.rep bY 5 (fun x=>x.oz) (fun x y=>{ x with oz:=y }):=(Lens.vW _ _ _ _).comp ((Lens.snd _ _).comp ((Lens.snd _ _).comp ((Lens.snd _ _).comp ((Lens.snd _ _).comp ((Lens.snd _ _).comp (Lens.fst _ _))))))
theorem GEvent.l6:Lens GEvent.rep bY 6 (fun x=>x.GY) (fun x y=>{ x with GY:=y }):=(Lens.vW _ _ _ _).comp ((Lens.snd _ _).comp ((Lens.snd _ _).comp ((Lens.snd _ _).comp ((Lens.snd _ _).comp ((Lens.snd _ _).comp ((Lens.snd _ _).comp (Lens.fst _ _)))))))
theorem GEvent.l7:Lens GEvent.rep bY 7 (fun x=>x.To) (fun x y=>{ x with To:=y }):=(Lens.vW _ _ _ _).comp ((Lens.snd _ _).comp ((Lens.snd _ _).comp ((Lens.snd _ _).comp ((Lens.snd _ _).comp ((Lens.snd _ _).comp ((Lens.snd _ _).comp ((Lens.snd _ _).comp (Lens.fst _ _))))))))
def GEvent.eqb (x y:GEvent):Bool:=((x.At == y.At)&&((x.Op == y.Op)&&((x.Name == y.Name)&&((x.Space == y.Space)&&((x.Person == y.Person)&&((x.oz == y.oz)&&((x.GY == y.GY)&&((x.To == y.To)&&true))))))))
structure af where
  plan:GPermitPlan
  now:Int
  done:(List GEvent)
def af.rep:Rep (af×Value×Value×Value):=Rep.vW (Rep.prod GPermitPlan.rep (Rep.prod bY (Rep.prod Rep.Gl (Rep.prod Rep.Gl (Rep.prod Rep.Gl (Rep.prod (Rep.slice GEvent.rep) Rep.unit)))))) (fun s=>(s.1.plan,(s.1.now,(s.2.1,(s.2.2.1,(s.2.2.2,(s.1.done,()))))))) (fun t=>(⟨t.1,t.2.1,t.2.2.2.2.2.1⟩,t.2.2.1,t.2.2.2.1,t.2.2.2.2.1)) (fun _=>rfl)
theorem af.l0:Lens af.rep GPermitPlan.rep 0 (fun x=>x.1.plan) (fun x y=>({ x.1 with plan:=y },x.2)):=(Lens.vW _ _ _ _).comp (Lens.fst _ _)
theorem af.l1:Lens af.rep bY 4 (fun x=>x.1.now) (fun x y=>({ x.1 with now:=y },x.2)):=(Lens.vW _ _ _ _).comp ((Lens.snd _ _).comp (Lens.fst _ _))
theorem af.l2:Lens af.rep Rep.Gl 5 (fun x=>x.2.1) (fun x y=>(x.1,y,x.2.2.1,x.2.2.2)):=(Lens.vW _ _ _ _).comp ((Lens.snd _ _).comp ((Lens.snd _ _).comp (Lens.fst _ _)))
theorem af.l3:Lens af.rep Rep.Gl 6 (fun x=>x.2.2.1) (fun x y=>(x.1,x.2.1,y,x.2.2.2)):=(Lens.vW _ _ _ _).comp ((Lens.snd _ _).comp ((Lens.snd _ _).comp ((Lens.snd _ _).comp (Lens.fst _ _))))
theorem af.l4:Lens af.rep Rep.Gl 7 (fun x=>x.2.2.2) (fun x y=>(x.1,x.2.1,x.2.2.1,y)):=(Lens.vW _ _ _ _).comp ((Lens.snd _ _).comp ((Lens.snd _ _).comp ((Lens.snd _ _).comp ((Lens.snd _ _).comp (Lens.fst _ _)))))
theorem af.l5:Lens af.rep (Rep.slice GEvent.rep) 8 (fun x=>x.1.done) (fun x y=>({ x.1 with done:=y },x.2)):=(Lens.vW _ _ _ _).comp ((Lens.snd _ _).comp ((Lens.snd _ _).comp ((Lens.snd _ _).comp ((Lens.snd _ _).comp ((Lens.snd _ _).comp (Lens.fst _ _))))))
structure ah where
  state:Int
  zS:Str
  yQ:Int
def ah.rep:Rep ah:=Rep.vW (Rep.prod bY (Rep.prod Rep.str (Rep.prod bY Rep.unit))) (fun s=>(s.state,(s.zS,(s.yQ,())))) (fun t=>⟨t.1,t.2.1,t.2.2.1⟩) (fun _=>rfl)
def ah.ok (y:ah):Prop:=(gI .i64) y.state∧gS y.zS∧(gI .i64) y.yQ∧True
theorem ah.l0:Lens ah.rep bY 0 (fun x=>x.state) (fun x y=>{ x with state:=y }):=(Lens.vW _ _ _ _).comp (Lens.fst _ _)
theorem ah.l1:Lens ah.rep Rep.str 1 (fun x=>x.zS) (fun x y=>{ x with zS:=y }):=(Lens.vW _ _ _ _).comp ((Lens.snd _ _).comp (Lens.fst _ _))
theorem ah.l2:Lens ah.rep bY 2 (fun x=>x.yQ) (fun x y=>{ x with yQ:=y }):=(Lens.vW _ _ _ _).comp ((Lens.snd _ _).comp ((Lens.snd _ _).comp (Lens.fst _ _)))
structure au where
  at_:Int
  nO:Int
  QG:Int
def au.rep:Rep au:=Rep.vW (Rep.prod bY (Rep.prod bY (Rep.prod bY Rep.unit))) (fun s=>(s.at_,(s.nO,(s.QG,())))) (fun t=>⟨t.1,t.2.1,t.2.2.1⟩) (fun _=>rfl)
def au.ok (y:au):Prop:=(gI .i64) y.at_∧(gI .i64) y.nO∧(gI .i64) y.QG∧True
theorem au.l0:Lens au.rep bY 0 (fun x=>x.at_) (fun x y=>{ x with at_:=y }):=(Lens.vW _ _ _ _).comp (Lens.fst _ _)
theorem au.l1:Lens au.rep bY 1 (fun x=>x.nO) (fun x y=>{ x with nO:=y }):=(Lens.vW _ _ _ _).comp ((Lens.snd _ _).comp (Lens.fst _ _))
theorem au.l2:Lens au.rep bY 2 (fun x=>x.QG) (fun x y=>{ x with QG:=y }):=(Lens.vW _ _ _ _).comp ((Lens.snd _ _).comp ((Lens.snd _ _).comp (Lens.fst _ _)))
structure bQ where
  word:Str
  fields:Str
  states:(List Int)
  Qw:(Option Nat)
def bQ.rep:Rep bQ:=Rep.vW (Rep.prod Rep.str (Rep.prod Rep.str (Rep.prod (Rep.II bY) (Rep.prod Rep.Ro Rep.unit)))) (fun s=>(s.word,(s.fields,(s.states,(s.Qw,()))))) (fun t=>⟨t.1,t.2.1,t.2.2.1,t.2.2.2.1⟩) (fun _=>rfl)
theorem bQ.l0:Lens bQ.rep Rep.str 0 (fun x=>x.word) (fun x y=>{ x with word:=y }):=(Lens.vW _ _ _ _).comp (Lens.fst _ _)
theorem bQ.l1:Lens bQ.rep Rep.str 1 (fun x=>x.fields) (fun x y=>{ x with fields:=y }):=(Lens.vW _ _ _ _).comp ((Lens.snd _ _).comp (Lens.fst _ _))
theorem bQ.l2:Lens bQ.rep (Rep.II bY) 2 (fun x=>x.states) (fun x y=>{ x with states:=y }):=(Lens.vW _ _ _ _).comp ((Lens.snd _ _).comp ((Lens.snd _ _).comp (Lens.fst _ _)))
theorem bQ.l3:Lens bQ.rep Rep.Ro 3 (fun x=>x.Qw) (fun x y=>{ x with Qw:=y }):=(Lens.vW _ _ _ _).comp ((Lens.snd _ _).comp ((Lens.snd _ _).comp ((Lens.snd _ _).comp (Lens.fst _ _))))
structure ax where
  names:(List Str)
  e:Int
def ax.rep:Rep ax:=Rep.vW (Rep.prod (Rep.slice Rep.str) (Rep.prod bY Rep.unit)) (fun s=>(s.names,(s.e,()))) (fun t=>⟨t.1,t.2.1⟩) (fun _=>rfl)
def ax.ok (y:ax):Prop:=(gL gS) y.names∧(gI .i64) y.e∧True
theorem ax.l0:Lens ax.rep (Rep.slice Rep.str) 0 (fun x=>x.names) (fun x y=>{ x with names:=y }):=(Lens.vW _ _ _ _).comp (Lens.fst _ _)
theorem ax.l1:Lens ax.rep bY 1 (fun x=>x.e) (fun x y=>{ x with e:=y }):=(Lens.vW _ _ _ _).comp ((Lens.snd _ _).comp (Lens.fst _ _))
structure bV where
  Err:Int
  Names:(List Str)
def bV.rep:Rep bV:=Rep.vW (Rep.prod bY (Rep.prod (Rep.slice Rep.str) Rep.unit)) (fun s=>(s.Err,(s.Names,()))) (fun t=>⟨t.1,t.2.1⟩) (fun _=>rfl)
def bV.ok (y:bV):Prop:=(gI .i64) y.Err∧(gL gS) y.Names∧True
theorem bV.l0:Lens bV.rep bY 0 (fun x=>x.Err) (fun x y=>{ x with Err:=y }):=(Lens.vW _ _ _ _).comp (Lens.fst _ _)
theorem bV.l1:Lens bV.rep (Rep.slice Rep.str) 1 (fun x=>x.Names) (fun x y=>{ x with Names:=y }):=(Lens.vW _ _ _ _).comp ((Lens.snd _ _).comp (Lens.fst _ _))
structure dZ where
  Done:Bool
  At:Int
  oz:Int
  GY:Int
def dZ.rep:Rep dZ:=Rep.vW (Rep.prod Rep.bool (Rep.prod bY (Rep.prod bY (Rep.prod bY Rep.unit)))) (fun s=>(s.Done,(s.At,(s.oz,(s.GY,()))))) (fun t=>⟨t.1,t.2.1,t.2.2.1,t.2.2.2.1⟩) (fun _=>rfl)
def dZ.ok (y:dZ):Prop:=(fun _=>True) y.Done∧(gI .i64) y.At∧(gI .i64) y.oz∧(gI .i64) y.GY∧True
theorem dZ.l0:Lens dZ.rep Rep.bool 0 (fun x=>x.Done) (fun x y=>{ x with Done:=y }):=(Lens.vW _ _ _ _).comp (Lens.fst _ _)
theorem dZ.l1:Lens dZ.rep bY 1 (fun x=>x.At) (fun x y=>{ x with At:=y }):=(Lens.vW _ _ _ _).comp ((Lens.snd _ _).comp (Lens.fst _ _))
theorem dZ.l2:Lens dZ.rep bY 2 (fun x=>x.oz) (fun x y=>{ x with oz:=y }):=(Lens.vW _ _ _ _).comp ((Lens.snd _ _).comp ((Lens.snd _ _).comp (Lens.fst _ _)))
theorem dZ.l3:Lens dZ.rep bY 3 (fun x=>x.GY) (fun x y=>{ x with GY:=y }):=(Lens.vW _ _ _ _).comp ((Lens.snd _ _).comp ((Lens.snd _ _).comp ((Lens.snd _ _).comp (Lens.fst _ _))))
structure fD where
  Name:Str
  Space:Str
def fD.rep:Rep fD:=Rep.vW (Rep.prod Rep.str (Rep.prod Rep.str Rep.unit)) (fun s=>(s.Name,(s.Space,()))) (fun t=>⟨t.1,t.2.1⟩) (fun _=>rfl)
def fD.ok (y:fD):Prop:=gS y.Name∧gS y.Space∧True
theorem fD.l0:Lens fD.rep Rep.str 0 (fun x=>x.Name) (fun x y=>{ x with Name:=y }):=(Lens.vW _ _ _ _).comp (Lens.fst _ _)
theorem fD.l1:Lens fD.rep Rep.str 1 (fun x=>x.Space) (fun x y=>{ x with Space:=y }):=(Lens.vW _ _ _ _).comp ((Lens.snd _ _).comp (Lens.fst _ _))
structure ai where
  P:GPermitPlan
  Now:Int
  cO:(List Int)
  By:(List Str)
  To:(List Int)
  Tests:(List dZ)
  oC:(List fD)
def ai.rep:Rep ai:=Rep.vW (Rep.prod GPermitPlan.rep (Rep.prod bY (Rep.prod (Rep.slice bY) (Rep.prod (Rep.slice Rep.str) (Rep.prod (Rep.slice bY) (Rep.prod (Rep.slice dZ.rep) (Rep.prod (Rep.slice fD.rep) Rep.unit))))))) (fun s=>(s.P,(s.Now,(s.cO,(s.By,(s.To,(s.Tests,(s.oC,())))))))) (fun t=>⟨t.1,t.2.1,t.2.2.1,t.2.2.2.1,t.2.2.2.2.1,t.2.2.2.2.2.1,t.2.2.2.2.2.2.1⟩) (fun _=>rfl)
def ai.ok (y:ai):Prop:=GPermitPlan.ok y.P∧(gI .i64) y.Now∧(gL (gI .i64)) y.cO∧(gL gS) y.By∧(gL (gI .i64)) y.To∧(gL dZ.ok) y.Tests∧(gL fD.ok) y.oC∧True
theorem ai.l0:Lens ai.rep GPermitPlan.rep 0 (fun x=>x.P) (fun x y=>{ x with P:=y }):=(Lens.vW _ _ _ _).comp (Lens.fst _ _)
theorem ai.l1:Lens ai.rep bY 4 (fun x=>x.Now) (fun x y=>{ x with Now:=y }):=(Lens.vW _ _ _ _).comp ((Lens.snd _ _).comp (Lens.fst _ _))
theorem ai.l2:Lens ai.rep (Rep.slice bY) 5 (fun x=>x.cO) (fun x y=>{ x with cO:=y }):=(Lens.vW _ _ _ _).comp ((Lens.snd _ _).comp ((Lens.snd _ _).comp (Lens.fst _ _)))
theorem ai.l3:Lens ai.rep (Rep.slice Rep.str) 6 (fun x=>x.By) (fun x y=>{ x with By:=y }):=(Lens.vW _ _ _ _).comp ((Lens.snd _ _).comp ((Lens.snd _ _).comp ((Lens.snd _ _).comp (Lens.fst _ _))))
theorem ai.l4:Lens ai.rep (Rep.slice bY) 7 (fun x=>x.To) (fun x y=>{ x with To:=y }):=(Lens.vW _ _ _ _).comp ((Lens.snd _ _).comp ((Lens.snd _ _).comp ((Lens.snd _ _).comp ((Lens.snd _ _).comp (Lens.fst _ _)))))
theorem ai.l5:Lens ai.rep (Rep.slice dZ.rep) 8 (fun x=>x.Tests) (fun x y=>{ x with Tests:=y }):=(Lens.vW _ _ _ _).comp ((Lens.snd _ _).comp ((Lens.snd _ _).comp ((Lens.snd _ _).comp ((Lens.snd _ _).comp ((Lens.snd _ _).comp (Lens.fst _ _))))))
theorem ai.l6:Lens ai.rep (Rep.slice fD.rep) 9 (fun x=>x.oC) (fun x y=>{ x with oC:=y }):=(Lens.vW _ _ _ _).comp ((Lens.snd _ _).comp ((Lens.snd _ _).comp ((Lens.snd _ _).comp ((Lens.snd _ _).comp ((Lens.snd _ _).comp ((Lens.snd _ _).comp (Lens.fst _ _)))))))
structure bf where
  E:Int
  Names:(List Str)
def bf.rep:Rep bf:=Rep.vW (Rep.prod bY (Rep.prod (Rep.slice Rep.str) Rep.unit)) (fun s=>(s.E,(s.Names,()))) (fun t=>⟨t.1,t.2.1⟩) (fun _=>rfl)
def bf.ok (y:bf):Prop:=(gI .i64) y.E∧(gL gS) y.Names∧True
theorem bf.l0:Lens bf.rep bY 0 (fun x=>x.E) (fun x y=>{ x with E:=y }):=(Lens.vW _ _ _ _).comp (Lens.fst _ _)
theorem bf.l1:Lens bf.rep (Rep.slice Rep.str) 1 (fun x=>x.Names) (fun x y=>{ x with Names:=y }):=(Lens.vW _ _ _ _).comp ((Lens.snd _ _).comp (Lens.fst _ _))
abbrev fZ:=dG.rep
abbrev jG:=cu.rep
abbrev aX:=aH.rep
abbrev bH:=GPermitPlan.rep
abbrev bI:=GEvent.rep
abbrev aC:=af.rep
abbrev aP:=ah.rep
abbrev bJ:=au.rep
abbrev rY:=bQ.rep
abbrev aA:=ax.rep
abbrev dP:=bV.rep
abbrev dB:=dZ.rep
abbrev iG:=fD.rep
abbrev aG:=ai.rep
abbrev bZ:=bf.rep
abbrev gJ (k:Nat) (g:af) (a2 a3 a4 v:Value) (x2:(List (Str×ah))) (x3:(List (Str×au))) (x4:(List (Str×Str))):List (Nat×gU):=[(k,fO (dX 90 af.rep (g,a2,a3,a4) ([⟨8,47,GEvent.rep.sz⟩]:List eF)) v),(k+1,fO (dw dD ah.rep x2) a2),(k+2,fO (dw dD au.rep x3) a3),(k+3,fO (dw dD Rep.str x4) a4)]
abbrev zT (k:Nat) (g:af) (a2 a3 a4 v:Value) (x2:(List (Str×ah))) (x3:(List (Str×au))) (x4:(List (Str×Str))):List (Nat×gU):=[(k,fO (dX 90 af.rep (g,a2,a3,a4) ([]:List eF)) v),(k+1,fO (dw dD ah.rep x2) a2),(k+2,fO (dw dD au.rep x3) a3),(k+3,fO (dw dD Rep.str x4) a4)]
end Go.KB
