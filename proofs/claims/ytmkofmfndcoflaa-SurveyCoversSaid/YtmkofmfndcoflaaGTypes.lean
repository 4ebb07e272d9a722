/- Go's types as Lean types. Printed by a program. No condition. -/
import Derived.Test.YtmkofmfndcoflaaKZf
namespace Go.KB
abbrev r_i8:Rep Int:=Rep.int .i8
abbrev r_i16:Rep Int:=Rep.int .i16
abbrev r_i32:Rep Int:=Rep.int .i32
abbrev aP:Rep Int:=Rep.int .i64
abbrev r_u8:Rep Int:=Rep.int .u8
abbrev aQ:Rep Int:=Rep.int .u16
abbrev uQ:Rep Int:=Rep.int .u32
abbrev mV:Rep Int:=Rep.int .u64
structure GPanel where
  Name:Str
  Rows:Int
  dX:Int
  ig:Int
  Readings:(List Int)
def GPanel.rep:Rep GPanel:=Rep.uZ (Rep.prod Rep.str (Rep.prod aP (Rep.prod aP (Rep.prod aP (Rep.prod (Rep.slice aP) Rep.unit))))) (fun s=>(s.Name,(s.Rows,(s.dX,(s.ig,(s.Readings,())))))) (fun t=>⟨t.1,t.2.1,t.2.2.1,t.2.2.2.1,t.2.2.2.2.1⟩) (fun _=>rfl)
def GPanel.ok (y:GPanel):Prop:=gS y.Name∧(gI .i64) y.Rows∧(gI .i64) y.dX∧(gI .i64) y.ig∧(gL (gI .i64)) y.Readings∧True
theorem GPanel.l0:Lens GPanel.rep Rep.str 0 (fun x=>x.Name) (fun x y=>{ x with Name:=y }):=(Lens.uZ _ _ _ _).comp (Lens.fst _ _)
theorem GPanel.l1:Lens GPanel.rep aP 1 (fun x=>x.Rows) (fun x y=>{ x with Rows:=y }):=(Lens.uZ _ _ _ _).comp ((Lens.snd _ _).comp (Lens.fst _ _))
theorem GPanel.l2:Lens GPanel.rep aP 2 (fun x=>x.dX) (fun x y=>{ x with dX:=y }):=(Lens.uZ _ _ _ _).comp ((Lens.snd _ _).comp ((Lens.snd _ _).comp (Lens.fst _ _)))
theorem GPanel.l3:Lens GPanel.rep aP 3 (fun x=>x.ig) (fun x y=>{ x with ig:=y }):=(Lens.uZ _ _ _ _).comp ((Lens.snd _ _).comp ((Lens.snd _ _).comp ((Lens.snd _ _).comp (Lens.fst _ _))))
theorem GPanel.l4:Lens GPanel.rep (Rep.slice aP) 4 (fun x=>x.Readings) (fun x y=>{ x with Readings:=y }):=(Lens.uZ _ _ _ _).comp ((Lens.snd _ _).comp ((Lens.snd _ _).comp ((Lens.snd _ _).comp ((Lens.snd _ _).comp (Lens.fst _ _)))))
structure GRule where
  dn:Int
  lX:Int
def GRule.rep:Rep GRule:=Rep.uZ (Rep.prod aP (Rep.prod aP Rep.unit)) (fun s=>(s.dn,(s.lX,()))) (fun t=>⟨t.1,t.2.1⟩) (fun _=>rfl)
def GRule.ok (y:GRule):Prop:=(gI .i64) y.dn∧(gI .i64) y.lX∧True
theorem GRule.l0:Lens GRule.rep aP 0 (fun x=>x.dn) (fun x y=>{ x with dn:=y }):=(Lens.uZ _ _ _ _).comp (Lens.fst _ _)
theorem GRule.l1:Lens GRule.rep aP 1 (fun x=>x.lX) (fun x y=>{ x with lX:=y }):=(Lens.uZ _ _ _ _).comp ((Lens.snd _ _).comp (Lens.fst _ _))
structure iZ where
  Start:Int
  uf:Int
  yC:Int
  Back:Bool
def iZ.rep:Rep iZ:=Rep.uZ (Rep.prod aP (Rep.prod aP (Rep.prod aP (Rep.prod Rep.bool Rep.unit)))) (fun s=>(s.Start,(s.uf,(s.yC,(s.Back,()))))) (fun t=>⟨t.1,t.2.1,t.2.2.1,t.2.2.2.1⟩) (fun _=>rfl)
def iZ.ok (y:iZ):Prop:=(gI .i64) y.Start∧(gI .i64) y.uf∧(gI .i64) y.yC∧(fun _=>True) y.Back∧True
theorem iZ.l0:Lens iZ.rep aP 0 (fun x=>x.Start) (fun x y=>{ x with Start:=y }):=(Lens.uZ _ _ _ _).comp (Lens.fst _ _)
theorem iZ.l1:Lens iZ.rep aP 1 (fun x=>x.uf) (fun x y=>{ x with uf:=y }):=(Lens.uZ _ _ _ _).comp ((Lens.snd _ _).comp (Lens.fst _ _))
theorem iZ.l2:Lens iZ.rep aP 2 (fun x=>x.yC) (fun x y=>{ x with yC:=y }):=(Lens.uZ _ _ _ _).comp ((Lens.snd _ _).comp ((Lens.snd _ _).comp (Lens.fst _ _)))
theorem iZ.l3:Lens iZ.rep Rep.bool 3 (fun x=>x.Back) (fun x y=>{ x with Back:=y }):=(Lens.uZ _ _ _ _).comp ((Lens.snd _ _).comp ((Lens.snd _ _).comp ((Lens.snd _ _).comp (Lens.fst _ _))))
structure dO where
  Neg:Bool
  Limbs:(List Int)
def dO.rep:Rep dO:=Rep.uZ (Rep.prod Rep.bool (Rep.prod (Rep.slice aQ) Rep.unit)) (fun s=>(s.Neg,(s.Limbs,()))) (fun t=>⟨t.1,t.2.1⟩) (fun _=>rfl)
def dO.ok (y:dO):Prop:=(fun _=>True) y.Neg∧(gL (gI .u16)) y.Limbs∧True
theorem dO.l0:Lens dO.rep Rep.bool 0 (fun x=>x.Neg) (fun x y=>{ x with Neg:=y }):=(Lens.uZ _ _ _ _).comp (Lens.fst _ _)
theorem dO.l1:Lens dO.rep (Rep.slice aQ) 1 (fun x=>x.Limbs) (fun x y=>{ x with Limbs:=y }):=(Lens.uZ _ _ _ _).comp ((Lens.snd _ _).comp (Lens.fst _ _))
structure eu where
  Num:dO
  JE:dO
def eu.rep:Rep eu:=Rep.uZ (Rep.prod dO.rep (Rep.prod dO.rep Rep.unit)) (fun s=>(s.Num,(s.JE,()))) (fun t=>⟨t.1,t.2.1⟩) (fun _=>rfl)
def eu.ok (y:eu):Prop:=dO.ok y.Num∧dO.ok y.JE∧True
theorem eu.l0:Lens eu.rep dO.rep 0 (fun x=>x.Num) (fun x y=>{ x with Num:=y }):=(Lens.uZ _ _ _ _).comp (Lens.fst _ _)
theorem eu.l1:Lens eu.rep dO.rep 2 (fun x=>x.JE) (fun x y=>{ x with JE:=y }):=(Lens.uZ _ _ _ _).comp ((Lens.snd _ _).comp (Lens.fst _ _))
structure aA where
  X:Int
  Y:Int
  W:Int
  H:Int
def aA.rep:Rep aA:=Rep.uZ (Rep.prod aP (Rep.prod aP (Rep.prod aP (Rep.prod aP Rep.unit)))) (fun s=>(s.X,(s.Y,(s.W,(s.H,()))))) (fun t=>⟨t.1,t.2.1,t.2.2.1,t.2.2.2.1⟩) (fun _=>rfl)
def aA.ok (y:aA):Prop:=(gI .i64) y.X∧(gI .i64) y.Y∧(gI .i64) y.W∧(gI .i64) y.H∧True
theorem aA.l0:Lens aA.rep aP 0 (fun x=>x.X) (fun x y=>{ x with X:=y }):=(Lens.uZ _ _ _ _).comp (Lens.fst _ _)
theorem aA.l1:Lens aA.rep aP 1 (fun x=>x.Y) (fun x y=>{ x with Y:=y }):=(Lens.uZ _ _ _ _).comp ((Lens.snd _ _).comp (Lens.fst _ _))
theorem aA.l2:Lens aA.rep aP 2 (fun x=>x.W) (fun x y=>{ x with W:=y }):=(Lens.uZ _ _ _ _).comp ((Lens.snd _ _).comp ((Lens.snd _ _).comp (Lens.fst _ _)))
theorem aA.l3:Lens aA.rep aP 3 (fun x=>x.H) (fun x y=>{ x with H:=y }):=(Lens.uZ _ _ _ _).comp ((Lens.snd _ _).comp ((Lens.snd _ _).comp ((Lens.snd _ _).comp (Lens.fst _ _))))
abbrev zZ:dO:=(⟨false,[]⟩:dO)
abbrev zQ:eu:=(⟨(⟨false,[]⟩:dO),(⟨false,[]⟩:dO)⟩:eu)
abbrev iq:=GPanel.rep
abbrev pI:=GRule.rep
abbrev y5:=iZ.rep
abbrev kz:=dO.rep
abbrev fH:=eu.rep
abbrev aX:=aA.rep
end Go.KB
