/- Go's types as Lean types. Printed by a program. No condition. -/
import Derived.Test.YtalkbgomndhkmaaGreatKZf
namespace Go.KB
abbrev r_i8:Rep Int:=Rep.int .i8
abbrev r_i16:Rep Int:=Rep.int .i16
abbrev r_i32:Rep Int:=Rep.int .i32
abbrev r_i64:Rep Int:=Rep.int .i64
abbrev r_u8:Rep Int:=Rep.int .u8
abbrev r_u16:Rep Int:=Rep.int .u16
abbrev r_u32:Rep Int:=Rep.int .u32
abbrev r_u64:Rep Int:=Rep.int .u64
structure dh where
  Name:Str
  dS:Bool
  Next:(List Str)
def dh.rep:Rep dh:=Rep.xq (Rep.prod Rep.str (Rep.prod Rep.bool (Rep.prod (Rep.slice Rep.str) Rep.unit))) (fun s=>(s.Name,(s.dS,(s.Next,())))) (fun t=>⟨t.1,t.2.1,t.2.2.1⟩) (fun _=>rfl)
def dh.ok (y:dh):Prop:=gS y.Name∧(fun _=>True) y.dS∧(gL gS) y.Next∧True
theorem dh.l0:Lens dh.rep Rep.str 0 (fun x=>x.Name) (fun x y=>{ x with Name:=y }):=(Lens.xq _ _ _ _).comp (Lens.fst _ _)
theorem dh.l1:Lens dh.rep Rep.bool 1 (fun x=>x.dS) (fun x y=>{ x with dS:=y }):=(Lens.xq _ _ _ _).comp ((Lens.snd _ _).comp (Lens.fst _ _))
theorem dh.l2:Lens dh.rep (Rep.slice Rep.str) 2 (fun x=>x.Next) (fun x y=>{ x with Next:=y }):=(Lens.xq _ _ _ _).comp ((Lens.snd _ _).comp ((Lens.snd _ _).comp (Lens.fst _ _)))
structure bJ where
  A:Int
  B:Int
  Reach:Int
def bJ.rep:Rep bJ:=Rep.xq (Rep.prod r_i64 (Rep.prod r_i64 (Rep.prod r_i64 Rep.unit))) (fun s=>(s.A,(s.B,(s.Reach,())))) (fun t=>⟨t.1,t.2.1,t.2.2.1⟩) (fun _=>rfl)
def bJ.ok (y:bJ):Prop:=(gI .i64) y.A∧(gI .i64) y.B∧(gI .i64) y.Reach∧True
theorem bJ.l0:Lens bJ.rep r_i64 0 (fun x=>x.A) (fun x y=>{ x with A:=y }):=(Lens.xq _ _ _ _).comp (Lens.fst _ _)
theorem bJ.l1:Lens bJ.rep r_i64 1 (fun x=>x.B) (fun x y=>{ x with B:=y }):=(Lens.xq _ _ _ _).comp ((Lens.snd _ _).comp (Lens.fst _ _))
theorem bJ.l2:Lens bJ.rep r_i64 2 (fun x=>x.Reach) (fun x y=>{ x with Reach:=y }):=(Lens.xq _ _ _ _).comp ((Lens.snd _ _).comp ((Lens.snd _ _).comp (Lens.fst _ _)))
structure aA where
  Name:Str
  Kind:Int
  Space:Str
  From:Int
  To:Int
  Locks:(List Str)
def aA.rep:Rep aA:=Rep.xq (Rep.prod Rep.str (Rep.prod r_i64 (Rep.prod Rep.str (Rep.prod r_i64 (Rep.prod r_i64 (Rep.prod (Rep.slice Rep.str) Rep.unit)))))) (fun s=>(s.Name,(s.Kind,(s.Space,(s.From,(s.To,(s.Locks,()))))))) (fun t=>⟨t.1,t.2.1,t.2.2.1,t.2.2.2.1,t.2.2.2.2.1,t.2.2.2.2.2.1⟩) (fun _=>rfl)
def aA.ok (y:aA):Prop:=gS y.Name∧(gI .i64) y.Kind∧gS y.Space∧(gI .i64) y.From∧(gI .i64) y.To∧(gL gS) y.Locks∧True
theorem aA.l0:Lens aA.rep Rep.str 0 (fun x=>x.Name) (fun x y=>{ x with Name:=y }):=(Lens.xq _ _ _ _).comp (Lens.fst _ _)
theorem aA.l1:Lens aA.rep r_i64 1 (fun x=>x.Kind) (fun x y=>{ x with Kind:=y }):=(Lens.xq _ _ _ _).comp ((Lens.snd _ _).comp (Lens.fst _ _))
theorem aA.l2:Lens aA.rep Rep.str 2 (fun x=>x.Space) (fun x y=>{ x with Space:=y }):=(Lens.xq _ _ _ _).comp ((Lens.snd _ _).comp ((Lens.snd _ _).comp (Lens.fst _ _)))
theorem aA.l3:Lens aA.rep r_i64 3 (fun x=>x.From) (fun x y=>{ x with From:=y }):=(Lens.xq _ _ _ _).comp ((Lens.snd _ _).comp ((Lens.snd _ _).comp ((Lens.snd _ _).comp (Lens.fst _ _))))
theorem aA.l4:Lens aA.rep r_i64 4 (fun x=>x.To) (fun x y=>{ x with To:=y }):=(Lens.xq _ _ _ _).comp ((Lens.snd _ _).comp ((Lens.snd _ _).comp ((Lens.snd _ _).comp ((Lens.snd _ _).comp (Lens.fst _ _)))))
theorem aA.l5:Lens aA.rep (Rep.slice Rep.str) 5 (fun x=>x.Locks) (fun x y=>{ x with Locks:=y }):=(Lens.xq _ _ _ _).comp ((Lens.snd _ _).comp ((Lens.snd _ _).comp ((Lens.snd _ _).comp ((Lens.snd _ _).comp ((Lens.snd _ _).comp (Lens.fst _ _))))))
structure GPermitPlan where
  bF:(List dh)
  cZ:(List bJ)
  ai:(List aA)
  dw:Int
def GPermitPlan.rep:Rep GPermitPlan:=Rep.xq (Rep.prod (Rep.slice dh.rep) (Rep.prod (Rep.slice bJ.rep) (Rep.prod (Rep.slice aA.rep) (Rep.prod r_i64 Rep.unit)))) (fun s=>(s.bF,(s.cZ,(s.ai,(s.dw,()))))) (fun t=>⟨t.1,t.2.1,t.2.2.1,t.2.2.2.1⟩) (fun _=>rfl)
def GPermitPlan.ok (y:GPermitPlan):Prop:=(gL dh.ok) y.bF∧(gL bJ.ok) y.cZ∧(gL aA.ok) y.ai∧(gI .i64) y.dw∧True
theorem GPermitPlan.l0:Lens GPermitPlan.rep (Rep.slice dh.rep) 0 (fun x=>x.bF) (fun x y=>{ x with bF:=y }):=(Lens.xq _ _ _ _).comp (Lens.fst _ _)
theorem GPermitPlan.l1:Lens GPermitPlan.rep (Rep.slice bJ.rep) 1 (fun x=>x.cZ) (fun x y=>{ x with cZ:=y }):=(Lens.xq _ _ _ _).comp ((Lens.snd _ _).comp (Lens.fst _ _))
theorem GPermitPlan.l2:Lens GPermitPlan.rep (Rep.slice aA.rep) 2 (fun x=>x.ai) (fun x y=>{ x with ai:=y }):=(Lens.xq _ _ _ _).comp ((Lens.snd _ _).comp ((Lens.snd _ _).comp (Lens.fst _ _)))
theorem GPermitPlan.l3:Lens GPermitPlan.rep r_i64 3 (fun x=>x.dw) (fun x y=>{ x with dw:=y }):=(Lens.xq _ _ _ _).comp ((Lens.snd _ _).comp ((Lens.snd _ _).comp ((Lens.snd _ _).comp (Lens.fst _ _))))
structure aU where
  At:Int
  Op:Int
  Name:Str
  Space:Str
  Person:Str
  vN:Int
  Pq:Int
  To:Int
def aU.rep:Rep aU:=Rep.xq (Rep.prod r_i64 (Rep.prod r_i64 (Rep.prod Rep.str (Rep.prod Rep.str (Rep.prod Rep.str (Rep.prod r_i64 (Rep.prod r_i64 (Rep.prod r_i64 Rep.unit)))))))) (fun s=>(s.At,(s.Op,(s.Name,(s.Space,(s.Person,(s.vN,(s.Pq,(s.To,()))))))))) (fun t=>⟨t.1,t.2.1,t.2.2.1,t.2.2.2.1,t.2.2.2.2.1,t.2.2.2.2.2.1,t.2.2.2.2.2.2.1,t.2.2.2.2.2.2.2.1⟩) (fun _=>rfl)
def aU.ok (y:aU):Prop:=(gI .i64) y.At∧(gI .i64) y.Op∧gS y.Name∧gS y.Space∧gS y.Person∧(gI .i64) y.vN∧(gI .i64) y.Pq∧(gI .i64) y.To∧True
theorem aU.l0:Lens aU.rep r_i64 0 (fun x=>x.At) (fun x y=>{ x with At:=y }):=(Lens.xq _ _ _ _).comp (Lens.fst _ _)
theorem aU.l1:Lens aU.rep r_i64 1 (fun x=>x.Op) (fun x y=>{ x with Op:=y }):=(Lens.xq _ _ _ _).comp ((Lens.snd _ _).comp (Lens.fst _ _))
theorem aU.l2:Lens aU.rep Rep.str 2 (fun x=>x.Name) (fun x y=>{ x with Name:=y }):=(Lens.xq _ _ _ _).comp ((Lens.snd _ _).comp ((Lens.snd _ _).comp (Lens.fst _ _)))
theorem aU.l3:Lens aU.rep Rep.str 3 (fun x=>x.Space) (fun x y=>{ x with Space:=y }):=(Lens.xq _ _ _ _).comp ((Lens.snd _ _).comp ((Lens.snd _ _).comp ((Lens.snd _ _).comp (Lens.fst _ _))))
theorem aU.l4:Lens aU.rep Rep.str 4 (fun x=>x.Person) (fun x y=>{ x with Person:=y }):=(Lens.xq _ _ _ _).comp ((Lens.snd _ _).comp ((Lens.snd _ _).comp ((Lens.snd _ _).comp ((Lens.snd _ _).comp (Lens.fst _ _)))))
theorem aU.l5:Lens aU.rep r_i64 5 (fun x=>x.vN) (fun x y=>{ x with vN:=y }):=(Lens.xq _ _ _ _).comp ((Lens.snd _ _).comp ((Lens.snd _ _).comp ((Lens.snd _ _).comp ((Lens.snd _ _).comp ((Lens.snd _ _).comp (Lens.fst _ _))))))
theorem aU.l6:Lens aU.rep r_i64 6 (fun x=>x.Pq) (fun x y=>{ x with Pq:=y }):=(Lens.xq _ _ _ _).comp ((Lens.snd _ _).comp ((Lens.snd _ _).comp ((Lens.snd _ _).comp ((Lens.snd _ _).comp ((Lens.snd _ _).comp ((Lens.snd _ _).comp (Lens.fst _ _)))))))
theorem aU.l7:Lens aU.rep r_i64 7 (fun x=>x.To) (fun x y=>{ x with To:=y }):=(Lens.xq _ _ _ _).comp ((Lens.snd _ _).comp ((Lens.snd _ _).comp ((Lens.snd _ _).comp ((Lens.snd _ _).comp ((Lens.snd _ _).comp ((Lens.snd _ _).comp ((Lens.snd _ _).comp (Lens.fst _ _))))))))
structure ah where
  plan:GPermitPlan
  now:Int
  done:(List aU)
def ah.rep:Rep (ah×Value×Value×Value):=Rep.xq (Rep.prod GPermitPlan.rep (Rep.prod r_i64 (Rep.prod Rep.Dv (Rep.prod Rep.Dv (Rep.prod Rep.Dv (Rep.prod (Rep.slice aU.rep) Rep.unit)))))) (fun s=>(s.1.plan,(s.1.now,(s.2.1,(s.2.2.1,(s.2.2.2,(s.1.done,()))))))) (fun t=>(⟨t.1,t.2.1,t.2.2.2.2.2.1⟩,t.2.2.1,t.2.2.2.1,t.2.2.2.2.1)) (fun _=>rfl)
theorem ah.l0:Lens ah.rep GPermitPlan.rep 0 (fun x=>x.1.plan) (fun x y=>({ x.1 with plan:=y },x.2)):=(Lens.xq _ _ _ _).comp (Lens.fst _ _)
theorem ah.l1:Lens ah.rep r_i64 4 (fun x=>x.1.now) (fun x y=>({ x.1 with now:=y },x.2)):=(Lens.xq _ _ _ _).comp ((Lens.snd _ _).comp (Lens.fst _ _))
theorem ah.l2:Lens ah.rep Rep.Dv 5 (fun x=>x.2.1) (fun x y=>(x.1,y,x.2.2.1,x.2.2.2)):=(Lens.xq _ _ _ _).comp ((Lens.snd _ _).comp ((Lens.snd _ _).comp (Lens.fst _ _)))
theorem ah.l3:Lens ah.rep Rep.Dv 6 (fun x=>x.2.2.1) (fun x y=>(x.1,x.2.1,y,x.2.2.2)):=(Lens.xq _ _ _ _).comp ((Lens.snd _ _).comp ((Lens.snd _ _).comp ((Lens.snd _ _).comp (Lens.fst _ _))))
theorem ah.l4:Lens ah.rep Rep.Dv 7 (fun x=>x.2.2.2) (fun x y=>(x.1,x.2.1,x.2.2.1,y)):=(Lens.xq _ _ _ _).comp ((Lens.snd _ _).comp ((Lens.snd _ _).comp ((Lens.snd _ _).comp ((Lens.snd _ _).comp (Lens.fst _ _)))))
theorem ah.l5:Lens ah.rep (Rep.slice aU.rep) 8 (fun x=>x.1.done) (fun x y=>({ x.1 with done:=y },x.2)):=(Lens.xq _ _ _ _).comp ((Lens.snd _ _).comp ((Lens.snd _ _).comp ((Lens.snd _ _).comp ((Lens.snd _ _).comp ((Lens.snd _ _).comp (Lens.fst _ _))))))
structure af where
  state:Int
  BD:Str
  yB:Int
def af.rep:Rep af:=Rep.xq (Rep.prod r_i64 (Rep.prod Rep.str (Rep.prod r_i64 Rep.unit))) (fun s=>(s.state,(s.BD,(s.yB,())))) (fun t=>⟨t.1,t.2.1,t.2.2.1⟩) (fun _=>rfl)
def af.ok (y:af):Prop:=(gI .i64) y.state∧gS y.BD∧(gI .i64) y.yB∧True
theorem af.l0:Lens af.rep r_i64 0 (fun x=>x.state) (fun x y=>{ x with state:=y }):=(Lens.xq _ _ _ _).comp (Lens.fst _ _)
theorem af.l1:Lens af.rep Rep.str 1 (fun x=>x.BD) (fun x y=>{ x with BD:=y }):=(Lens.xq _ _ _ _).comp ((Lens.snd _ _).comp (Lens.fst _ _))
theorem af.l2:Lens af.rep r_i64 2 (fun x=>x.yB) (fun x y=>{ x with yB:=y }):=(Lens.xq _ _ _ _).comp ((Lens.snd _ _).comp ((Lens.snd _ _).comp (Lens.fst _ _)))
structure aj where
  at_:Int
  kz:Int
  MJ:Int
def aj.rep:Rep aj:=Rep.xq (Rep.prod r_i64 (Rep.prod r_i64 (Rep.prod r_i64 Rep.unit))) (fun s=>(s.at_,(s.kz,(s.MJ,())))) (fun t=>⟨t.1,t.2.1,t.2.2.1⟩) (fun _=>rfl)
def aj.ok (y:aj):Prop:=(gI .i64) y.at_∧(gI .i64) y.kz∧(gI .i64) y.MJ∧True
theorem aj.l0:Lens aj.rep r_i64 0 (fun x=>x.at_) (fun x y=>{ x with at_:=y }):=(Lens.xq _ _ _ _).comp (Lens.fst _ _)
theorem aj.l1:Lens aj.rep r_i64 1 (fun x=>x.kz) (fun x y=>{ x with kz:=y }):=(Lens.xq _ _ _ _).comp ((Lens.snd _ _).comp (Lens.fst _ _))
theorem aj.l2:Lens aj.rep r_i64 2 (fun x=>x.MJ) (fun x y=>{ x with MJ:=y }):=(Lens.xq _ _ _ _).comp ((Lens.snd _ _).comp ((Lens.snd _ _).comp (Lens.fst _ _)))
structure bf where
  word:Str
  fields:Str
  states:(List Int)
  Nh:(Option Nat)
def bf.rep:Rep bf:=Rep.xq (Rep.prod Rep.str (Rep.prod Rep.str (Rep.prod (Rep.EL r_i64) (Rep.prod Rep.N8 Rep.unit)))) (fun s=>(s.word,(s.fields,(s.states,(s.Nh,()))))) (fun t=>⟨t.1,t.2.1,t.2.2.1,t.2.2.2.1⟩) (fun _=>rfl)
theorem bf.l0:Lens bf.rep Rep.str 0 (fun x=>x.word) (fun x y=>{ x with word:=y }):=(Lens.xq _ _ _ _).comp (Lens.fst _ _)
theorem bf.l1:Lens bf.rep Rep.str 1 (fun x=>x.fields) (fun x y=>{ x with fields:=y }):=(Lens.xq _ _ _ _).comp ((Lens.snd _ _).comp (Lens.fst _ _))
theorem bf.l2:Lens bf.rep (Rep.EL r_i64) 2 (fun x=>x.states) (fun x y=>{ x with states:=y }):=(Lens.xq _ _ _ _).comp ((Lens.snd _ _).comp ((Lens.snd _ _).comp (Lens.fst _ _)))
theorem bf.l3:Lens bf.rep Rep.N8 3 (fun x=>x.Nh) (fun x y=>{ x with Nh:=y }):=(Lens.xq _ _ _ _).comp ((Lens.snd _ _).comp ((Lens.snd _ _).comp ((Lens.snd _ _).comp (Lens.fst _ _))))
structure ak where
  names:(List Str)
  e:Int
def ak.rep:Rep ak:=Rep.xq (Rep.prod (Rep.slice Rep.str) (Rep.prod r_i64 Rep.unit)) (fun s=>(s.names,(s.e,()))) (fun t=>⟨t.1,t.2.1⟩) (fun _=>rfl)
def ak.ok (y:ak):Prop:=(gL gS) y.names∧(gI .i64) y.e∧True
theorem ak.l0:Lens ak.rep (Rep.slice Rep.str) 0 (fun x=>x.names) (fun x y=>{ x with names:=y }):=(Lens.xq _ _ _ _).comp (Lens.fst _ _)
theorem ak.l1:Lens ak.rep r_i64 1 (fun x=>x.e) (fun x y=>{ x with e:=y }):=(Lens.xq _ _ _ _).comp ((Lens.snd _ _).comp (Lens.fst _ _))
structure bP where
  Err:Int
  Names:(List Str)
def bP.rep:Rep bP:=Rep.xq (Rep.prod r_i64 (Rep.prod (Rep.slice Rep.str) Rep.unit)) (fun s=>(s.Err,(s.Names,()))) (fun t=>⟨t.1,t.2.1⟩) (fun _=>rfl)
def bP.ok (y:bP):Prop:=(gI .i64) y.Err∧(gL gS) y.Names∧True
theorem bP.l0:Lens bP.rep r_i64 0 (fun x=>x.Err) (fun x y=>{ x with Err:=y }):=(Lens.xq _ _ _ _).comp (Lens.fst _ _)
theorem bP.l1:Lens bP.rep (Rep.slice Rep.str) 1 (fun x=>x.Names) (fun x y=>{ x with Names:=y }):=(Lens.xq _ _ _ _).comp ((Lens.snd _ _).comp (Lens.fst _ _))
abbrev dY:=dh.rep
abbrev jd:=bJ.rep
abbrev aC:=aA.rep
abbrev aG:=GPermitPlan.rep
abbrev dM:=aU.rep
abbrev bU:=ah.rep
abbrev aQ:=af.rep
abbrev cu:=aj.rep
abbrev pM:=bf.rep
abbrev au:=ak.rep
abbrev fO:=bP.rep
abbrev dD (k:Nat) (g:ah) (a2 a3 a4 v:Value) (x2:(List (Str×af))) (x3:(List (Str×aj))) (x4:(List (Str×Str))):List (Nat×eu):=[(k,iO (eU 90 ah.rep (g,a2,a3,a4) ([⟨8,47,aU.rep.sz⟩]:List dQ)) v),(k+1,iO (dL dV af.rep x2) a2),(k+2,iO (dL dV aj.rep x3) a3),(k+3,iO (dL dV Rep.str x4) a4)]
abbrev oP0 (k:Nat) (g:ah) (a2 a3 a4 v:Value) (x2:(List (Str×af))) (x3:(List (Str×aj))) (x4:(List (Str×Str))):List (Nat×eu):=[(k,iO (eU 90 ah.rep (g,a2,a3,a4) ([]:List dQ)) v),(k+1,iO (dL dV af.rep x2) a2),(k+2,iO (dL dV aj.rep x3) a3),(k+3,iO (dL dV Rep.str x4) a4)]
end Go.KB
