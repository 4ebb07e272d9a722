/- Go's types as Lean types. Printed by a program. No condition. -/
import Derived.Test.YtehmpjjbmldcnaaKRec
import Derived.Test.YtehmpjjbmldcnaaKAa
namespace Go.KB
abbrev r_i8:Rep Int:=Rep.int .i8
abbrev r_i16:Rep Int:=Rep.int .i16
abbrev r_i32:Rep Int:=Rep.int .i32
abbrev aU:Rep Int:=Rep.int .i64
abbrev r_u8:Rep Int:=Rep.int .u8
abbrev dX:Rep Int:=Rep.int .u16
abbrev Q9:Rep Int:=Rep.int .u32
abbrev uF:Rep Int:=Rep.int .u64
structure bC where
  Name:Str
  W:Int
  H:Int
  Turn:Bool
def bC.rep:Rep bC:=Rep.vC (Rep.prod Rep.str (Rep.prod aU (Rep.prod aU (Rep.prod Rep.bool Rep.unit)))) (fun s=>(s.Name,(s.W,(s.H,(s.Turn,()))))) (fun t=>⟨t.1,t.2.1,t.2.2.1,t.2.2.2.1⟩) (fun _=>rfl)
def bC.ok (y:bC):Prop:=gS y.Name∧(gI .i64) y.W∧(gI .i64) y.H∧(fun _=>True) y.Turn∧True
theorem bC.l0:Lens bC.rep Rep.str 0 (fun x=>x.Name) (fun x y=>{ x with Name:=y }):=(Lens.vC _ _ _ _).comp (Lens.fst _ _)
theorem bC.l1:Lens bC.rep aU 1 (fun x=>x.W) (fun x y=>{ x with W:=y }):=(Lens.vC _ _ _ _).comp ((Lens.snd _ _).comp (Lens.fst _ _))
theorem bC.l2:Lens bC.rep aU 2 (fun x=>x.H) (fun x y=>{ x with H:=y }):=(Lens.vC _ _ _ _).comp ((Lens.snd _ _).comp ((Lens.snd _ _).comp (Lens.fst _ _)))
theorem bC.l3:Lens bC.rep Rep.bool 3 (fun x=>x.Turn) (fun x y=>{ x with Turn:=y }):=(Lens.vC _ _ _ _).comp ((Lens.snd _ _).comp ((Lens.snd _ _).comp ((Lens.snd _ _).comp (Lens.fst _ _))))
structure GPlate where
  W:Int
  H:Int
  Price:Int
def GPlate.rep:Rep GPlate:=Rep.vC (Rep.prod aU (Rep.prod aU (Rep.prod aU Rep.unit))) (fun s=>(s.W,(s.H,(s.Price,())))) (fun t=>⟨t.1,t.2.1,t.2.2.1⟩) (fun _=>rfl)
def GPlate.ok (y:GPlate):Prop:=(gI .i64) y.W∧(gI .i64) y.H∧(gI .i64) y.Price∧True
theorem GPlate.l0:Lens GPlate.rep aU 0 (fun x=>x.W) (fun x y=>{ x with W:=y }):=(Lens.vC _ _ _ _).comp (Lens.fst _ _)
theorem GPlate.l1:Lens GPlate.rep aU 1 (fun x=>x.H) (fun x y=>{ x with H:=y }):=(Lens.vC _ _ _ _).comp ((Lens.snd _ _).comp (Lens.fst _ _))
theorem GPlate.l2:Lens GPlate.rep aU 2 (fun x=>x.Price) (fun x y=>{ x with Price:=y }):=(Lens.vC _ _ _ _).comp ((Lens.snd _ _).comp ((Lens.snd _ _).comp (Lens.fst _ _)))
structure bV where
  Piece:Int
  Turned:Bool
  nS:Bool
  At:Int
  First:(List bV)
  Rest:(List bV)
def bV.Uy (q:Rep (List bV)):Rep bV:=Rep.vC (Rep.prod aU (Rep.prod Rep.bool (Rep.prod Rep.bool (Rep.prod aU (Rep.prod q (Rep.prod q Rep.unit)))))) (fun s=>(s.Piece,(s.Turned,(s.nS,(s.At,(s.First,(s.Rest,()))))))) (fun t=>⟨t.1,t.2.1,t.2.2.1,t.2.2.2.1,t.2.2.2.2.1,t.2.2.2.2.2.1⟩) (fun _=>rfl)
theorem bV.yT:LY bV.Uy:=⟨fun _=>rfl,fun _=>rfl,fun _=>rfl,fun _=>rfl,fun _ _ hl=>Rep.Uz (Rep.wB (Rep.le_refl _) (Rep.wB (Rep.le_refl _) (Rep.wB (Rep.le_refl _) (Rep.wB (Rep.le_refl _) (Rep.wB hl (Rep.wB hl (Rep.le_refl _))))))),fun _ _ c=>Chain.vC ((Chain.const _).prod ((Chain.const _).prod ((Chain.const _).prod ((Chain.const _).prod (c.prod (c.prod (Chain.const _))))))) _ _ _,fun _=>rfl⟩
def bV.rep:Rep bV:=Rep.fix bV.Uy bV.yT
inductive bV.ok:bV→Prop
  | mk (y:bV) (a4:y.First.length≤maxLen) (b4:∀ x ∈ y.First,bV.ok x) (a5:y.Rest.length≤maxLen) (b5:∀ x ∈ y.Rest,bV.ok x):bV.ok y
theorem bV.l0:Lens bV.rep aU 0 (fun x=>x.Piece) (fun x y=>{ x with Piece:=y }):=Lens.fix bV.yT ((Lens.vC _ _ _ _).comp (Lens.fst _ _))
theorem bV.l1:Lens bV.rep Rep.bool 1 (fun x=>x.Turned) (fun x y=>{ x with Turned:=y }):=Lens.fix bV.yT ((Lens.vC _ _ _ _).comp ((Lens.snd _ _).comp (Lens.fst _ _)))
theorem bV.l2:Lens bV.rep Rep.bool 2 (fun x=>x.nS) (fun x y=>{ x with nS:=y }):=Lens.fix bV.yT ((Lens.vC _ _ _ _).comp ((Lens.snd _ _).comp ((Lens.snd _ _).comp (Lens.fst _ _))))
theorem bV.l3:Lens bV.rep aU 3 (fun x=>x.At) (fun x y=>{ x with At:=y }):=Lens.fix bV.yT ((Lens.vC _ _ _ _).comp ((Lens.snd _ _).comp ((Lens.snd _ _).comp ((Lens.snd _ _).comp (Lens.fst _ _)))))
theorem bV.l4:Lens bV.rep (Rep.slice bV.rep) 4 (fun x=>x.First) (fun x y=>{ x with First:=y }):=Lens.fix bV.yT ((Lens.vC _ _ _ _).comp ((Lens.snd _ _).comp ((Lens.snd _ _).comp ((Lens.snd _ _).comp ((Lens.snd _ _).comp (Lens.fst _ _))))))
theorem bV.l5:Lens bV.rep (Rep.slice bV.rep) 5 (fun x=>x.Rest) (fun x y=>{ x with Rest:=y }):=Lens.fix bV.yT ((Lens.vC _ _ _ _).comp ((Lens.snd _ _).comp ((Lens.snd _ _).comp ((Lens.snd _ _).comp ((Lens.snd _ _).comp ((Lens.snd _ _).comp (Lens.fst _ _)))))))
structure dR where
  sF:Int
  wS:bV
def dR.rep:Rep dR:=Rep.vC (Rep.prod aU (Rep.prod bV.rep Rep.unit)) (fun s=>(s.sF,(s.wS,()))) (fun t=>⟨t.1,t.2.1⟩) (fun _=>rfl)
def dR.ok (y:dR):Prop:=(gI .i64) y.sF∧bV.ok y.wS∧True
theorem dR.l0:Lens dR.rep aU 0 (fun x=>x.sF) (fun x y=>{ x with sF:=y }):=(Lens.vC _ _ _ _).comp (Lens.fst _ _)
theorem dR.l1:Lens dR.rep bV.rep 1 (fun x=>x.wS) (fun x y=>{ x with wS:=y }):=(Lens.vC _ _ _ _).comp ((Lens.snd _ _).comp (Lens.fst _ _))
structure Glaw09_Job where
  rQ:(List bC)
  qO:(List GPlate)
  ou:(List dR)
  E8:Int
def Glaw09_Job.rep:Rep Glaw09_Job:=Rep.vC (Rep.prod (Rep.slice bC.rep) (Rep.prod (Rep.slice GPlate.rep) (Rep.prod (Rep.slice dR.rep) (Rep.prod aU Rep.unit)))) (fun s=>(s.rQ,(s.qO,(s.ou,(s.E8,()))))) (fun t=>⟨t.1,t.2.1,t.2.2.1,t.2.2.2.1⟩) (fun _=>rfl)
def Glaw09_Job.ok (y:Glaw09_Job):Prop:=(gL bC.ok) y.rQ∧(gL GPlate.ok) y.qO∧(gL dR.ok) y.ou∧(gI .i64) y.E8∧True
theorem Glaw09_Job.l0:Lens Glaw09_Job.rep (Rep.slice bC.rep) 0 (fun x=>x.rQ) (fun x y=>{ x with rQ:=y }):=(Lens.vC _ _ _ _).comp (Lens.fst _ _)
theorem Glaw09_Job.l1:Lens Glaw09_Job.rep (Rep.slice GPlate.rep) 1 (fun x=>x.qO) (fun x y=>{ x with qO:=y }):=(Lens.vC _ _ _ _).comp ((Lens.snd _ _).comp (Lens.fst _ _))
theorem Glaw09_Job.l2:Lens Glaw09_Job.rep (Rep.slice dR.rep) 2 (fun x=>x.ou) (fun x y=>{ x with ou:=y }):=(Lens.vC _ _ _ _).comp ((Lens.snd _ _).comp ((Lens.snd _ _).comp (Lens.fst _ _)))
theorem Glaw09_Job.l3:Lens Glaw09_Job.rep aU 3 (fun x=>x.E8) (fun x y=>{ x with E8:=y }):=(Lens.vC _ _ _ _).comp ((Lens.snd _ _).comp ((Lens.snd _ _).comp ((Lens.snd _ _).comp (Lens.fst _ _))))
structure af where
  w:Int
  h:Int
  piece:Int
  turned:Bool
  across:Bool
  parts:(List af)
def af.Uy (q:Rep (List af)):Rep af:=Rep.vC (Rep.prod aU (Rep.prod aU (Rep.prod aU (Rep.prod Rep.bool (Rep.prod Rep.bool (Rep.prod q Rep.unit)))))) (fun s=>(s.w,(s.h,(s.piece,(s.turned,(s.across,(s.parts,()))))))) (fun t=>⟨t.1,t.2.1,t.2.2.1,t.2.2.2.1,t.2.2.2.2.1,t.2.2.2.2.2.1⟩) (fun _=>rfl)
theorem af.yT:LY af.Uy:=⟨fun _=>rfl,fun _=>rfl,fun _=>rfl,fun _=>rfl,fun _ _ hl=>Rep.Uz (Rep.wB (Rep.le_refl _) (Rep.wB (Rep.le_refl _) (Rep.wB (Rep.le_refl _) (Rep.wB (Rep.le_refl _) (Rep.wB (Rep.le_refl _) (Rep.wB hl (Rep.le_refl _))))))),fun _ _ c=>Chain.vC ((Chain.const _).prod ((Chain.const _).prod ((Chain.const _).prod ((Chain.const _).prod ((Chain.const _).prod (c.prod (Chain.const _))))))) _ _ _,fun _=>rfl⟩
def af.rep:Rep af:=Rep.fix af.Uy af.yT
inductive af.ok:af→Prop
  | mk (y:af) (a5:y.parts.length≤maxLen) (b5:∀ x ∈ y.parts,af.ok x):af.ok y
theorem af.l0:Lens af.rep aU 0 (fun x=>x.w) (fun x y=>{ x with w:=y }):=Lens.fix af.yT ((Lens.vC _ _ _ _).comp (Lens.fst _ _))
theorem af.l1:Lens af.rep aU 1 (fun x=>x.h) (fun x y=>{ x with h:=y }):=Lens.fix af.yT ((Lens.vC _ _ _ _).comp ((Lens.snd _ _).comp (Lens.fst _ _)))
theorem af.l2:Lens af.rep aU 2 (fun x=>x.piece) (fun x y=>{ x with piece:=y }):=Lens.fix af.yT ((Lens.vC _ _ _ _).comp ((Lens.snd _ _).comp ((Lens.snd _ _).comp (Lens.fst _ _))))
theorem af.l3:Lens af.rep Rep.bool 3 (fun x=>x.turned) (fun x y=>{ x with turned:=y }):=Lens.fix af.yT ((Lens.vC _ _ _ _).comp ((Lens.snd _ _).comp ((Lens.snd _ _).comp ((Lens.snd _ _).comp (Lens.fst _ _)))))
theorem af.l4:Lens af.rep Rep.bool 4 (fun x=>x.across) (fun x y=>{ x with across:=y }):=Lens.fix af.yT ((Lens.vC _ _ _ _).comp ((Lens.snd _ _).comp ((Lens.snd _ _).comp ((Lens.snd _ _).comp ((Lens.snd _ _).comp (Lens.fst _ _))))))
theorem af.l5:Lens af.rep (Rep.slice af.rep) 5 (fun x=>x.parts) (fun x y=>{ x with parts:=y }):=Lens.fix af.yT ((Lens.vC _ _ _ _).comp ((Lens.snd _ _).comp ((Lens.snd _ _).comp ((Lens.snd _ _).comp ((Lens.snd _ _).comp ((Lens.snd _ _).comp (Lens.fst _ _)))))))
structure aN where
  price:Int
  LZ:dR
  rest:Int
  Ah:Bool
def aN.rep:Rep aN:=Rep.vC (Rep.prod aU (Rep.prod dR.rep (Rep.prod aU (Rep.prod Rep.bool Rep.unit)))) (fun s=>(s.price,(s.LZ,(s.rest,(s.Ah,()))))) (fun t=>⟨t.1,t.2.1,t.2.2.1,t.2.2.2.1⟩) (fun _=>rfl)
def aN.ok (y:aN):Prop:=(gI .i64) y.price∧dR.ok y.LZ∧(gI .i64) y.rest∧(fun _=>True) y.Ah∧True
theorem aN.l0:Lens aN.rep aU 0 (fun x=>x.price) (fun x y=>{ x with price:=y }):=(Lens.vC _ _ _ _).comp (Lens.fst _ _)
theorem aN.l1:Lens aN.rep dR.rep 1 (fun x=>x.LZ) (fun x y=>{ x with LZ:=y }):=(Lens.vC _ _ _ _).comp ((Lens.snd _ _).comp (Lens.fst _ _))
theorem aN.l2:Lens aN.rep aU 8 (fun x=>x.rest) (fun x y=>{ x with rest:=y }):=(Lens.vC _ _ _ _).comp ((Lens.snd _ _).comp ((Lens.snd _ _).comp (Lens.fst _ _)))
theorem aN.l3:Lens aN.rep Rep.bool 9 (fun x=>x.Ah) (fun x y=>{ x with Ah:=y }):=(Lens.vC _ _ _ _).comp ((Lens.snd _ _).comp ((Lens.snd _ _).comp ((Lens.snd _ _).comp (Lens.fst _ _))))
structure bg where
  X:Int
  Y:Int
  W:Int
  H:Int
def bg.rep:Rep bg:=Rep.vC (Rep.prod aU (Rep.prod aU (Rep.prod aU (Rep.prod aU Rep.unit)))) (fun s=>(s.X,(s.Y,(s.W,(s.H,()))))) (fun t=>⟨t.1,t.2.1,t.2.2.1,t.2.2.2.1⟩) (fun _=>rfl)
def bg.ok (y:bg):Prop:=(gI .i64) y.X∧(gI .i64) y.Y∧(gI .i64) y.W∧(gI .i64) y.H∧True
theorem bg.l0:Lens bg.rep aU 0 (fun x=>x.X) (fun x y=>{ x with X:=y }):=(Lens.vC _ _ _ _).comp (Lens.fst _ _)
theorem bg.l1:Lens bg.rep aU 1 (fun x=>x.Y) (fun x y=>{ x with Y:=y }):=(Lens.vC _ _ _ _).comp ((Lens.snd _ _).comp (Lens.fst _ _))
theorem bg.l2:Lens bg.rep aU 2 (fun x=>x.W) (fun x y=>{ x with W:=y }):=(Lens.vC _ _ _ _).comp ((Lens.snd _ _).comp ((Lens.snd _ _).comp (Lens.fst _ _)))
theorem bg.l3:Lens bg.rep aU 3 (fun x=>x.H) (fun x y=>{ x with H:=y }):=(Lens.vC _ _ _ _).comp ((Lens.snd _ _).comp ((Lens.snd _ _).comp ((Lens.snd _ _).comp (Lens.fst _ _))))
structure cO where
  Piece:Int
  Turned:Bool
  NC:bg
def cO.rep:Rep cO:=Rep.vC (Rep.prod aU (Rep.prod Rep.bool (Rep.prod bg.rep Rep.unit))) (fun s=>(s.Piece,(s.Turned,(s.NC,())))) (fun t=>⟨t.1,t.2.1,t.2.2.1⟩) (fun _=>rfl)
def cO.ok (y:cO):Prop:=(gI .i64) y.Piece∧(fun _=>True) y.Turned∧bg.ok y.NC∧True
theorem cO.l0:Lens cO.rep aU 0 (fun x=>x.Piece) (fun x y=>{ x with Piece:=y }):=(Lens.vC _ _ _ _).comp (Lens.fst _ _)
theorem cO.l1:Lens cO.rep Rep.bool 1 (fun x=>x.Turned) (fun x y=>{ x with Turned:=y }):=(Lens.vC _ _ _ _).comp ((Lens.snd _ _).comp (Lens.fst _ _))
theorem cO.l2:Lens cO.rep bg.rep 2 (fun x=>x.NC) (fun x y=>{ x with NC:=y }):=(Lens.vC _ _ _ _).comp ((Lens.snd _ _).comp ((Lens.snd _ _).comp (Lens.fst _ _)))
structure ah where
  piece:Int
  turned:Bool
  xR:bg
def ah.rep:Rep ah:=Rep.vC (Rep.prod aU (Rep.prod Rep.bool (Rep.prod bg.rep Rep.unit))) (fun s=>(s.piece,(s.turned,(s.xR,())))) (fun t=>⟨t.1,t.2.1,t.2.2.1⟩) (fun _=>rfl)
def ah.ok (y:ah):Prop:=(gI .i64) y.piece∧(fun _=>True) y.turned∧bg.ok y.xR∧True
theorem ah.l0:Lens ah.rep aU 0 (fun x=>x.piece) (fun x y=>{ x with piece:=y }):=(Lens.vC _ _ _ _).comp (Lens.fst _ _)
theorem ah.l1:Lens ah.rep Rep.bool 1 (fun x=>x.turned) (fun x y=>{ x with turned:=y }):=(Lens.vC _ _ _ _).comp ((Lens.snd _ _).comp (Lens.fst _ _))
theorem ah.l2:Lens ah.rep bg.rep 2 (fun x=>x.xR) (fun x y=>{ x with xR:=y }):=(Lens.vC _ _ _ _).comp ((Lens.snd _ _).comp ((Lens.snd _ _).comp (Lens.fst _ _)))
structure ig where
  Neg:Bool
  Limbs:(List Int)
def ig.rep:Rep ig:=Rep.vC (Rep.prod Rep.bool (Rep.prod (Rep.slice dX) Rep.unit)) (fun s=>(s.Neg,(s.Limbs,()))) (fun t=>⟨t.1,t.2.1⟩) (fun _=>rfl)
def ig.ok (y:ig):Prop:=(fun _=>True) y.Neg∧(gL (gI .u16)) y.Limbs∧True
theorem ig.l0:Lens ig.rep Rep.bool 0 (fun x=>x.Neg) (fun x y=>{ x with Neg:=y }):=(Lens.vC _ _ _ _).comp (Lens.fst _ _)
theorem ig.l1:Lens ig.rep (Rep.slice dX) 1 (fun x=>x.Limbs) (fun x y=>{ x with Limbs:=y }):=(Lens.vC _ _ _ _).comp ((Lens.snd _ _).comp (Lens.fst _ _))
structure jq where
  Num:ig
  Ol:ig
def jq.rep:Rep jq:=Rep.vC (Rep.prod ig.rep (Rep.prod ig.rep Rep.unit)) (fun s=>(s.Num,(s.Ol,()))) (fun t=>⟨t.1,t.2.1⟩) (fun _=>rfl)
def jq.ok (y:jq):Prop:=ig.ok y.Num∧ig.ok y.Ol∧True
theorem jq.l0:Lens jq.rep ig.rep 0 (fun x=>x.Num) (fun x y=>{ x with Num:=y }):=(Lens.vC _ _ _ _).comp (Lens.fst _ _)
theorem jq.l1:Lens jq.rep ig.rep 2 (fun x=>x.Ol) (fun x y=>{ x with Ol:=y }):=(Lens.vC _ _ _ _).comp ((Lens.snd _ _).comp (Lens.fst _ _))
abbrev zZ:ig:=(⟨false,[]⟩:ig)
abbrev zQ:jq:=(⟨(⟨false,[]⟩:ig),(⟨false,[]⟩:ig)⟩:jq)
abbrev iQ:=bC.rep
abbrev iq:=GPlate.rep
abbrev oM:=bV.rep
abbrev lg:=dR.rep
abbrev JK:=Glaw09_Job.rep
abbrev ak:=af.rep
abbrev jv:=aN.rep
abbrev gq:=bg.rep
abbrev dB:=cO.rep
abbrev au:=ah.rep
abbrev oZ:=ig.rep
abbrev mW:=jq.rep
end Go.KB
