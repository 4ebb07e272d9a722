/- Go's types as Lean types. Printed by a program. No condition. -/
import Derived.Test.YtmkofmfndcoflaaKZf
namespace Go.KB
abbrev r_i8:Rep Int:=Rep.int .i8
abbrev r_i16:Rep Int:=Rep.int .i16
abbrev r_i32:Rep Int:=Rep.int .i32
abbrev aV:Rep Int:=Rep.int .i64
abbrev r_u8:Rep Int:=Rep.int .u8
abbrev aW:Rep Int:=Rep.int .u16
abbrev vw:Rep Int:=Rep.int .u32
abbrev ny:Rep Int:=Rep.int .u64
structure GPanel where
  Name:Str
  Rows:Int
  gW:Int
  ku:Int
  Readings:(List Int)
def GPanel.rep:Rep GPanel:=Rep.yg (Rep.prod Rep.str (Rep.prod aV (Rep.prod aV (Rep.prod aV (Rep.prod (Rep.slice aV) Rep.unit))))) (fun s=>(s.Name,(s.Rows,(s.gW,(s.ku,(s.Readings,())))))) (fun t=>⟨t.1,t.2.1,t.2.2.1,t.2.2.2.1,t.2.2.2.2.1⟩) (fun _=>rfl)
def GPanel.ok (y:GPanel):Prop:=gS y.Name∧(gI .i64) y.Rows∧(gI .i64) y.gW∧(gI .i64) y.ku∧(gL (gI .i64)) y.Readings∧True
theorem GPanel.l0:Lens GPanel.rep Rep.str 0 (fun x=>x.Name) (fun x y=>{ x with Name:=y }):=(Lens.yg _ _ _ _).comp (Lens.fst _ _)
theorem GPanel.l1:Lens GPanel.rep aV 1 (fun x=>x.Rows) (fun x y=>{ x with Rows:=y }):=(Lens.yg _ _ _ _).comp ((Lens.snd _ _).comp (Lens.fst _ _))
theorem GPanel.l2:Lens GPanel.rep aV 2 (fun x=>x.gW) (fun x y=>{ x with gW:=y }):=(Lens.yg _ _ _ _).comp ((Lens.snd _ _).comp ((Lens.snd _ _).comp (Lens.fst _ _)))
theorem GPanel.l3:Lens GPanel.rep aV 3 (fun x=>x.ku) (fun x y=>{ x with ku:=y }):=(Lens.yg _ _ _ _).comp ((Lens.snd _ _).comp ((Lens.snd _ _).comp ((Lens.snd _ _).comp (Lens.fst _ _))))
theorem GPanel.l4:Lens GPanel.rep (Rep.slice aV) 4 (fun x=>x.Readings) (fun x y=>{ x with Readings:=y }):=(Lens.yg _ _ _ _).comp ((Lens.snd _ _).comp ((Lens.snd _ _).comp ((Lens.snd _ _).comp ((Lens.snd _ _).comp (Lens.fst _ _)))))
structure GRule where
  dR:Int
  oG:Int
def GRule.rep:Rep GRule:=Rep.yg (Rep.prod aV (Rep.prod aV Rep.unit)) (fun s=>(s.dR,(s.oG,()))) (fun t=>⟨t.1,t.2.1⟩) (fun _=>rfl)
def GRule.ok (y:GRule):Prop:=(gI .i64) y.dR∧(gI .i64) y.oG∧True
theorem GRule.l0:Lens GRule.rep aV 0 (fun x=>x.dR) (fun x y=>{ x with dR:=y }):=(Lens.yg _ _ _ _).comp (Lens.fst _ _)
theorem GRule.l1:Lens GRule.rep aV 1 (fun x=>x.oG) (fun x y=>{ x with oG:=y }):=(Lens.yg _ _ _ _).comp ((Lens.snd _ _).comp (Lens.fst _ _))
structure jg where
  Start:Int
  um:Int
  y9:Int
  Back:Bool
def jg.rep:Rep jg:=Rep.yg (Rep.prod aV (Rep.prod aV (Rep.prod aV (Rep.prod Rep.bool Rep.unit)))) (fun s=>(s.Start,(s.um,(s.y9,(s.Back,()))))) (fun t=>⟨t.1,t.2.1,t.2.2.1,t.2.2.2.1⟩) (fun _=>rfl)
def jg.ok (y:jg):Prop:=(gI .i64) y.Start∧(gI .i64) y.um∧(gI .i64) y.y9∧(fun _=>True) y.Back∧True
theorem jg.l0:Lens jg.rep aV 0 (fun x=>x.Start) (fun x y=>{ x with Start:=y }):=(Lens.yg _ _ _ _).comp (Lens.fst _ _)
theorem jg.l1:Lens jg.rep aV 1 (fun x=>x.um) (fun x y=>{ x with um:=y }):=(Lens.yg _ _ _ _).comp ((Lens.snd _ _).comp (Lens.fst _ _))
theorem jg.l2:Lens jg.rep aV 2 (fun x=>x.y9) (fun x y=>{ x with y9:=y }):=(Lens.yg _ _ _ _).comp ((Lens.snd _ _).comp ((Lens.snd _ _).comp (Lens.fst _ _)))
theorem jg.l3:Lens jg.rep Rep.bool 3 (fun x=>x.Back) (fun x y=>{ x with Back:=y }):=(Lens.yg _ _ _ _).comp ((Lens.snd _ _).comp ((Lens.snd _ _).comp ((Lens.snd _ _).comp (Lens.fst _ _))))
structure dQ where
  Neg:Bool
  Limbs:(List Int)
def dQ.rep:Rep dQ:=Rep.yg (Rep.prod Rep.bool (Rep.prod (Rep.slice aW) Rep.unit)) (fun s=>(s.Neg,(s.Limbs,()))) (fun t=>⟨t.1,t.2.1⟩) (fun _=>rfl)
def dQ.ok (y:dQ):Prop:=(fun _=>True) y.Neg∧(gL (gI .u16)) y.Limbs∧True
theorem dQ.l0:Lens dQ.rep Rep.bool 0 (fun x=>x.Neg) (fun x y=>{ x with Neg:=y }):=(Lens.yg _ _ _ _).comp (Lens.fst _ _)
theorem dQ.l1:Lens dQ.rep (Rep.slice aW) 1 (fun x=>x.Limbs) (fun x y=>{ x with Limbs:=y }):=(Lens.yg _ _ _ _).comp ((Lens.snd _ _).comp (Lens.fst _ _))
structure fA where
  Num:dQ
  Jp:dQ
def fA.rep:Rep fA:=Rep.yg (Rep.prod dQ.rep (Rep.prod dQ.rep Rep.unit)) (fun s=>(s.Num,(s.Jp,()))) (fun t=>⟨t.1,t.2.1⟩) (fun _=>rfl)
def fA.ok (y:fA):Prop:=dQ.ok y.Num∧dQ.ok y.Jp∧True
theorem fA.l0:Lens fA.rep dQ.rep 0 (fun x=>x.Num) (fun x y=>{ x with Num:=y }):=(Lens.yg _ _ _ _).comp (Lens.fst _ _)
theorem fA.l1:Lens fA.rep dQ.rep 2 (fun x=>x.Jp) (fun x y=>{ x with Jp:=y }):=(Lens.yg _ _ _ _).comp ((Lens.snd _ _).comp (Lens.fst _ _))
structure ak where
  X:Int
  Y:Int
  W:Int
  H:Int
def ak.rep:Rep ak:=Rep.yg (Rep.prod aV (Rep.prod aV (Rep.prod aV (Rep.prod aV Rep.unit)))) (fun s=>(s.X,(s.Y,(s.W,(s.H,()))))) (fun t=>⟨t.1,t.2.1,t.2.2.1,t.2.2.2.1⟩) (fun _=>rfl)
def ak.ok (y:ak):Prop:=(gI .i64) y.X∧(gI .i64) y.Y∧(gI .i64) y.W∧(gI .i64) y.H∧True
theorem ak.l0:Lens ak.rep aV 0 (fun x=>x.X) (fun x y=>{ x with X:=y }):=(Lens.yg _ _ _ _).comp (Lens.fst _ _)
theorem ak.l1:Lens ak.rep aV 1 (fun x=>x.Y) (fun x y=>{ x with Y:=y }):=(Lens.yg _ _ _ _).comp ((Lens.snd _ _).comp (Lens.fst _ _))
theorem ak.l2:Lens ak.rep aV 2 (fun x=>x.W) (fun x y=>{ x with W:=y }):=(Lens.yg _ _ _ _).comp ((Lens.snd _ _).comp ((Lens.snd _ _).comp (Lens.fst _ _)))
theorem ak.l3:Lens ak.rep aV 3 (fun x=>x.H) (fun x y=>{ x with H:=y }):=(Lens.yg _ _ _ _).comp ((Lens.snd _ _).comp ((Lens.snd _ _).comp ((Lens.snd _ _).comp (Lens.fst _ _))))
def ak.eqb (x y:ak):Bool:=((x.X == y.X)&&((x.Y == y.Y)&&((x.W == y.W)&&((x.H == y.H)&&true))))
abbrev zZ:dQ:=(⟨false,[]⟩:dQ)
abbrev zQ:fA:=(⟨(⟨false,[]⟩:dQ),(⟨false,[]⟩:dQ)⟩:fA)
abbrev iT:=GPanel.rep
abbrev uZ:=GRule.rep
abbrev zS:=jg.rep
abbrev kF:=dQ.rep
abbrev fM:=fA.rep
abbrev aO:=ak.rep
end Go.KB
