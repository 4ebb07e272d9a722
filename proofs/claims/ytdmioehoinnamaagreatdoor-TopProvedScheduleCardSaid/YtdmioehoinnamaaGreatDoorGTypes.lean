/- Go's types as Lean types. Printed by a program. No condition. -/
import Derived.Test.YtdmioehoinnamaaGreatDoorKZf
import Derived.Test.YtdmioehoinnamaaGreatDoorKZg
import Derived.Test.YtdmioehoinnamaaGreatDoorKZj
namespace Go.KB
abbrev r_i8:Rep Int:=Rep.int .i8
abbrev r_i16:Rep Int:=Rep.int .i16
abbrev r_i32:Rep Int:=Rep.int .i32
abbrev aU:Rep Int:=Rep.int .i64
abbrev r_u8:Rep Int:=Rep.int .u8
abbrev r_u16:Rep Int:=Rep.int .u16
abbrev r_u32:Rep Int:=Rep.int .u32
abbrev r_u64:Rep Int:=Rep.int .u64
structure kJ where
  iH:Int
  gB:Int
def kJ.rep:Rep kJ:=Rep.yw (Rep.prod aU (Rep.prod aU Rep.unit)) (fun s=>(s.iH,(s.gB,()))) (fun t=>⟨t.1,t.2.1⟩) (fun _=>rfl)
def kJ.ok (y:kJ):Prop:=(gI .i64) y.iH∧(gI .i64) y.gB∧True
theorem kJ.l0:Lens kJ.rep aU 0 (fun x=>x.iH) (fun x y=>{ x with iH:=y }):=(Lens.yw _ _ _ _).comp (Lens.fst _ _)
theorem kJ.l1:Lens kJ.rep aU 1 (fun x=>x.gB) (fun x y=>{ x with gB:=y }):=(Lens.yw _ _ _ _).comp ((Lens.snd _ _).comp (Lens.fst _ _))
structure bU where
  Name:Str
  iq:Str
  Modes:(List kJ)
  Space:Str
  Kind:Int
  BH:Bool
  After:(List Str)
def bU.rep:Rep bU:=Rep.yw (Rep.prod Rep.str (Rep.prod Rep.str (Rep.prod (Rep.slice kJ.rep) (Rep.prod Rep.str (Rep.prod aU (Rep.prod Rep.bool (Rep.prod (Rep.slice Rep.str) Rep.unit))))))) (fun s=>(s.Name,(s.iq,(s.Modes,(s.Space,(s.Kind,(s.BH,(s.After,())))))))) (fun t=>⟨t.1,t.2.1,t.2.2.1,t.2.2.2.1,t.2.2.2.2.1,t.2.2.2.2.2.1,t.2.2.2.2.2.2.1⟩) (fun _=>rfl)
def bU.ok (y:bU):Prop:=gS y.Name∧gS y.iq∧(gL kJ.ok) y.Modes∧gS y.Space∧(gI .i64) y.Kind∧(fun _=>True) y.BH∧(gL gS) y.After∧True
theorem bU.l0:Lens bU.rep Rep.str 0 (fun x=>x.Name) (fun x y=>{ x with Name:=y }):=(Lens.yw _ _ _ _).comp (Lens.fst _ _)
theorem bU.l1:Lens bU.rep Rep.str 1 (fun x=>x.iq) (fun x y=>{ x with iq:=y }):=(Lens.yw _ _ _ _).comp ((Lens.snd _ _).comp (Lens.fst _ _))
theorem bU.l2:Lens bU.rep (Rep.slice kJ.rep) 2 (fun x=>x.Modes) (fun x y=>{ x with Modes:=y }):=(Lens.yw _ _ _ _).comp ((Lens.snd _ _).comp ((Lens.snd _ _).comp (Lens.fst _ _)))
theorem bU.l3:Lens bU.rep Rep.str 3 (fun x=>x.Space) (fun x y=>{ x with Space:=y }):=(Lens.yw _ _ _ _).comp ((Lens.snd _ _).comp ((Lens.snd _ _).comp ((Lens.snd _ _).comp (Lens.fst _ _))))
theorem bU.l4:Lens bU.rep aU 4 (fun x=>x.Kind) (fun x y=>{ x with Kind:=y }):=(Lens.yw _ _ _ _).comp ((Lens.snd _ _).comp ((Lens.snd _ _).comp ((Lens.snd _ _).comp ((Lens.snd _ _).comp (Lens.fst _ _)))))
theorem bU.l5:Lens bU.rep Rep.bool 5 (fun x=>x.BH) (fun x y=>{ x with BH:=y }):=(Lens.yw _ _ _ _).comp ((Lens.snd _ _).comp ((Lens.snd _ _).comp ((Lens.snd _ _).comp ((Lens.snd _ _).comp ((Lens.snd _ _).comp (Lens.fst _ _))))))
theorem bU.l6:Lens bU.rep (Rep.slice Rep.str) 6 (fun x=>x.After) (fun x y=>{ x with After:=y }):=(Lens.yw _ _ _ _).comp ((Lens.snd _ _).comp ((Lens.snd _ _).comp ((Lens.snd _ _).comp ((Lens.snd _ _).comp ((Lens.snd _ _).comp ((Lens.snd _ _).comp (Lens.fst _ _)))))))
structure iD where
  Name:Str
  gB:Int
  Ih:Int
def iD.rep:Rep iD:=Rep.yw (Rep.prod Rep.str (Rep.prod aU (Rep.prod aU Rep.unit))) (fun s=>(s.Name,(s.gB,(s.Ih,())))) (fun t=>⟨t.1,t.2.1,t.2.2.1⟩) (fun _=>rfl)
def iD.ok (y:iD):Prop:=gS y.Name∧(gI .i64) y.gB∧(gI .i64) y.Ih∧True
theorem iD.l0:Lens iD.rep Rep.str 0 (fun x=>x.Name) (fun x y=>{ x with Name:=y }):=(Lens.yw _ _ _ _).comp (Lens.fst _ _)
theorem iD.l1:Lens iD.rep aU 1 (fun x=>x.gB) (fun x y=>{ x with gB:=y }):=(Lens.yw _ _ _ _).comp ((Lens.snd _ _).comp (Lens.fst _ _))
theorem iD.l2:Lens iD.rep aU 2 (fun x=>x.Ih) (fun x y=>{ x with Ih:=y }):=(Lens.yw _ _ _ _).comp ((Lens.snd _ _).comp ((Lens.snd _ _).comp (Lens.fst _ _)))
structure jF where
  Name:Str
  Jj:Bool
  Next:(List Str)
def jF.rep:Rep jF:=Rep.yw (Rep.prod Rep.str (Rep.prod Rep.bool (Rep.prod (Rep.slice Rep.str) Rep.unit))) (fun s=>(s.Name,(s.Jj,(s.Next,())))) (fun t=>⟨t.1,t.2.1,t.2.2.1⟩) (fun _=>rfl)
def jF.ok (y:jF):Prop:=gS y.Name∧(fun _=>True) y.Jj∧(gL gS) y.Next∧True
theorem jF.l0:Lens jF.rep Rep.str 0 (fun x=>x.Name) (fun x y=>{ x with Name:=y }):=(Lens.yw _ _ _ _).comp (Lens.fst _ _)
theorem jF.l1:Lens jF.rep Rep.bool 1 (fun x=>x.Jj) (fun x y=>{ x with Jj:=y }):=(Lens.yw _ _ _ _).comp ((Lens.snd _ _).comp (Lens.fst _ _))
theorem jF.l2:Lens jF.rep (Rep.slice Rep.str) 2 (fun x=>x.Next) (fun x y=>{ x with Next:=y }):=(Lens.yw _ _ _ _).comp ((Lens.snd _ _).comp ((Lens.snd _ _).comp (Lens.fst _ _)))
structure dL where
  A:Int
  B:Int
  Reach:Int
def dL.rep:Rep dL:=Rep.yw (Rep.prod aU (Rep.prod aU (Rep.prod aU Rep.unit))) (fun s=>(s.A,(s.B,(s.Reach,())))) (fun t=>⟨t.1,t.2.1,t.2.2.1⟩) (fun _=>rfl)
def dL.ok (y:dL):Prop:=(gI .i64) y.A∧(gI .i64) y.B∧(gI .i64) y.Reach∧True
theorem dL.l0:Lens dL.rep aU 0 (fun x=>x.A) (fun x y=>{ x with A:=y }):=(Lens.yw _ _ _ _).comp (Lens.fst _ _)
theorem dL.l1:Lens dL.rep aU 1 (fun x=>x.B) (fun x y=>{ x with B:=y }):=(Lens.yw _ _ _ _).comp ((Lens.snd _ _).comp (Lens.fst _ _))
theorem dL.l2:Lens dL.rep aU 2 (fun x=>x.Reach) (fun x y=>{ x with Reach:=y }):=(Lens.yw _ _ _ _).comp ((Lens.snd _ _).comp ((Lens.snd _ _).comp (Lens.fst _ _)))
structure jH where
  From:Int
  To:Int
def jH.rep:Rep jH:=Rep.yw (Rep.prod aU (Rep.prod aU Rep.unit)) (fun s=>(s.From,(s.To,()))) (fun t=>⟨t.1,t.2.1⟩) (fun _=>rfl)
def jH.ok (y:jH):Prop:=(gI .i64) y.From∧(gI .i64) y.To∧True
theorem jH.l0:Lens jH.rep aU 0 (fun x=>x.From) (fun x y=>{ x with From:=y }):=(Lens.yw _ _ _ _).comp (Lens.fst _ _)
theorem jH.l1:Lens jH.rep aU 1 (fun x=>x.To) (fun x y=>{ x with To:=y }):=(Lens.yw _ _ _ _).comp ((Lens.snd _ _).comp (Lens.fst _ _))
structure GWork where
  Items:(List bU)
  aY:(List iD)
  dh:(List jF)
  bD:(List dL)
  dm:(List jH)
  FN:Int
  Due:Int
  Late:Int
  Last:Int
def GWork.rep:Rep GWork:=Rep.yw (Rep.prod (Rep.slice bU.rep) (Rep.prod (Rep.slice iD.rep) (Rep.prod (Rep.slice jF.rep) (Rep.prod (Rep.slice dL.rep) (Rep.prod (Rep.slice jH.rep) (Rep.prod aU (Rep.prod aU (Rep.prod aU (Rep.prod aU Rep.unit))))))))) (fun s=>(s.Items,(s.aY,(s.dh,(s.bD,(s.dm,(s.FN,(s.Due,(s.Late,(s.Last,())))))))))) (fun t=>⟨t.1,t.2.1,t.2.2.1,t.2.2.2.1,t.2.2.2.2.1,t.2.2.2.2.2.1,t.2.2.2.2.2.2.1,t.2.2.2.2.2.2.2.1,t.2.2.2.2.2.2.2.2.1⟩) (fun _=>rfl)
def GWork.ok (y:GWork):Prop:=(gL bU.ok) y.Items∧(gL iD.ok) y.aY∧(gL jF.ok) y.dh∧(gL dL.ok) y.bD∧(gL jH.ok) y.dm∧(gI .i64) y.FN∧(gI .i64) y.Due∧(gI .i64) y.Late∧(gI .i64) y.Last∧True
theorem GWork.l0:Lens GWork.rep (Rep.slice bU.rep) 0 (fun x=>x.Items) (fun x y=>{ x with Items:=y }):=(Lens.yw _ _ _ _).comp (Lens.fst _ _)
theorem GWork.l1:Lens GWork.rep (Rep.slice iD.rep) 1 (fun x=>x.aY) (fun x y=>{ x with aY:=y }):=(Lens.yw _ _ _ _).comp ((Lens.snd _ _).comp (Lens.fst _ _))
theorem GWork.l2:Lens GWork.rep (Rep.slice jF.rep) 2 (fun x=>x.dh) (fun x y=>{ x with dh:=y }):=(Lens.yw _ _ _ _).comp ((Lens.snd _ _).comp ((Lens.snd _ _).comp (Lens.fst _ _)))
theorem GWork.l3:Lens GWork.rep (Rep.slice dL.rep) 3 (fun x=>x.bD) (fun x y=>{ x with bD:=y }):=(Lens.yw _ _ _ _).comp ((Lens.snd _ _).comp ((Lens.snd _ _).comp ((Lens.snd _ _).comp (Lens.fst _ _))))
theorem GWork.l4:Lens GWork.rep (Rep.slice jH.rep) 4 (fun x=>x.dm) (fun x y=>{ x with dm:=y }):=(Lens.yw _ _ _ _).comp ((Lens.snd _ _).comp ((Lens.snd _ _).comp ((Lens.snd _ _).comp ((Lens.snd _ _).comp (Lens.fst _ _)))))
theorem GWork.l5:Lens GWork.rep aU 5 (fun x=>x.FN) (fun x y=>{ x with FN:=y }):=(Lens.yw _ _ _ _).comp ((Lens.snd _ _).comp ((Lens.snd _ _).comp ((Lens.snd _ _).comp ((Lens.snd _ _).comp ((Lens.snd _ _).comp (Lens.fst _ _))))))
theorem GWork.l6:Lens GWork.rep aU 6 (fun x=>x.Due) (fun x y=>{ x with Due:=y }):=(Lens.yw _ _ _ _).comp ((Lens.snd _ _).comp ((Lens.snd _ _).comp ((Lens.snd _ _).comp ((Lens.snd _ _).comp ((Lens.snd _ _).comp ((Lens.snd _ _).comp (Lens.fst _ _)))))))
theorem GWork.l7:Lens GWork.rep aU 7 (fun x=>x.Late) (fun x y=>{ x with Late:=y }):=(Lens.yw _ _ _ _).comp ((Lens.snd _ _).comp ((Lens.snd _ _).comp ((Lens.snd _ _).comp ((Lens.snd _ _).comp ((Lens.snd _ _).comp ((Lens.snd _ _).comp ((Lens.snd _ _).comp (Lens.fst _ _))))))))
theorem GWork.l8:Lens GWork.rep aU 8 (fun x=>x.Last) (fun x y=>{ x with Last:=y }):=(Lens.yw _ _ _ _).comp ((Lens.snd _ _).comp ((Lens.snd _ _).comp ((Lens.snd _ _).comp ((Lens.snd _ _).comp ((Lens.snd _ _).comp ((Lens.snd _ _).comp ((Lens.snd _ _).comp ((Lens.snd _ _).comp (Lens.fst _ _)))))))))
structure GSlot where
  Item:Str
  Mode:Int
  Day:Int
def GSlot.rep:Rep GSlot:=Rep.yw (Rep.prod Rep.str (Rep.prod aU (Rep.prod aU Rep.unit))) (fun s=>(s.Item,(s.Mode,(s.Day,())))) (fun t=>⟨t.1,t.2.1,t.2.2.1⟩) (fun _=>rfl)
def GSlot.ok (y:GSlot):Prop:=gS y.Item∧(gI .i64) y.Mode∧(gI .i64) y.Day∧True
theorem GSlot.l0:Lens GSlot.rep Rep.str 0 (fun x=>x.Item) (fun x y=>{ x with Item:=y }):=(Lens.yw _ _ _ _).comp (Lens.fst _ _)
theorem GSlot.l1:Lens GSlot.rep aU 1 (fun x=>x.Mode) (fun x y=>{ x with Mode:=y }):=(Lens.yw _ _ _ _).comp ((Lens.snd _ _).comp (Lens.fst _ _))
theorem GSlot.l2:Lens GSlot.rep aU 2 (fun x=>x.Day) (fun x y=>{ x with Day:=y }):=(Lens.yw _ _ _ _).comp ((Lens.snd _ _).comp ((Lens.snd _ _).comp (Lens.fst _ _)))
structure ah where
  mode:Int
  day:Int
  on:Bool
def ah.rep:Rep ah:=Rep.yw (Rep.prod aU (Rep.prod aU (Rep.prod Rep.bool Rep.unit))) (fun s=>(s.mode,(s.day,(s.on,())))) (fun t=>⟨t.1,t.2.1,t.2.2.1⟩) (fun _=>rfl)
def ah.ok (y:ah):Prop:=(gI .i64) y.mode∧(gI .i64) y.day∧(fun _=>True) y.on∧True
theorem ah.l0:Lens ah.rep aU 0 (fun x=>x.mode) (fun x y=>{ x with mode:=y }):=(Lens.yw _ _ _ _).comp (Lens.fst _ _)
theorem ah.l1:Lens ah.rep aU 1 (fun x=>x.day) (fun x y=>{ x with day:=y }):=(Lens.yw _ _ _ _).comp ((Lens.snd _ _).comp (Lens.fst _ _))
theorem ah.l2:Lens ah.rep Rep.bool 2 (fun x=>x.on) (fun x y=>{ x with on:=y }):=(Lens.yw _ _ _ _).comp ((Lens.snd _ _).comp ((Lens.snd _ _).comp (Lens.fst _ _)))
structure cu where
  A:Str
  B:Str
  Reason:Int
def cu.rep:Rep cu:=Rep.yw (Rep.prod Rep.str (Rep.prod Rep.str (Rep.prod aU Rep.unit))) (fun s=>(s.A,(s.B,(s.Reason,())))) (fun t=>⟨t.1,t.2.1,t.2.2.1⟩) (fun _=>rfl)
def cu.ok (y:cu):Prop:=gS y.A∧gS y.B∧(gI .i64) y.Reason∧True
theorem cu.l0:Lens cu.rep Rep.str 0 (fun x=>x.A) (fun x y=>{ x with A:=y }):=(Lens.yw _ _ _ _).comp (Lens.fst _ _)
theorem cu.l1:Lens cu.rep Rep.str 1 (fun x=>x.B) (fun x y=>{ x with B:=y }):=(Lens.yw _ _ _ _).comp ((Lens.snd _ _).comp (Lens.fst _ _))
theorem cu.l2:Lens cu.rep aU 2 (fun x=>x.Reason) (fun x y=>{ x with Reason:=y }):=(Lens.yw _ _ _ _).comp ((Lens.snd _ _).comp ((Lens.snd _ _).comp (Lens.fst _ _)))
structure dN where
  find:(Option Nat)
def dN.rep:Rep dN:=Rep.yw (Rep.prod Rep.yZ Rep.unit) (fun s=>(s.find,())) (fun t=>⟨t.1⟩) (fun _=>rfl)
theorem dN.l0:Lens dN.rep Rep.yZ 0 (fun x=>x.find) (fun x y=>{ x with find:=y }):=(Lens.yw _ _ _ _).comp (Lens.fst _ _)
structure aB where
  w:GWork
  prior:(List (List Int))
  apart:(List (List Bool))
def aB.rep:Rep (aB×Value×Value):=Rep.yw (Rep.prod GWork.rep (Rep.prod (Rep.slice (Rep.slice aU)) (Rep.prod (Rep.slice (Rep.slice Rep.bool)) (Rep.prod Rep.raw (Rep.prod Rep.raw Rep.unit))))) (fun s=>(s.1.w,(s.1.prior,(s.1.apart,(s.2.1,(s.2.2,())))))) (fun t=>(⟨t.1,t.2.1,t.2.2.1⟩,t.2.2.2.1,t.2.2.2.2.1)) (fun _=>rfl)
theorem aB.l0:Lens aB.rep GWork.rep 0 (fun x=>x.1.w) (fun x y=>({ x.1 with w:=y },x.2)):=(Lens.yw _ _ _ _).comp (Lens.fst _ _)
theorem aB.l1:Lens aB.rep (Rep.slice (Rep.slice aU)) 9 (fun x=>x.1.prior) (fun x y=>({ x.1 with prior:=y },x.2)):=(Lens.yw _ _ _ _).comp ((Lens.snd _ _).comp (Lens.fst _ _))
theorem aB.l2:Lens aB.rep (Rep.slice (Rep.slice Rep.bool)) 10 (fun x=>x.1.apart) (fun x y=>({ x.1 with apart:=y },x.2)):=(Lens.yw _ _ _ _).comp ((Lens.snd _ _).comp ((Lens.snd _ _).comp (Lens.fst _ _)))
theorem aB.l3:Lens aB.rep Rep.raw 11 (fun x=>x.2.1) (fun x y=>(x.1,y,x.2.2)):=(Lens.yw _ _ _ _).comp ((Lens.snd _ _).comp ((Lens.snd _ _).comp ((Lens.snd _ _).comp (Lens.fst _ _))))
theorem aB.l4:Lens aB.rep Rep.raw 12 (fun x=>x.2.2) (fun x y=>(x.1,x.2.1,y)):=(Lens.yw _ _ _ _).comp ((Lens.snd _ _).comp ((Lens.snd _ _).comp ((Lens.snd _ _).comp ((Lens.snd _ _).comp (Lens.fst _ _)))))
structure ay where
  of:(Option Nat)
  rest:(List Int)
  best:Int
  some:Bool
def ay.rep:Rep (ay×Value×Value):=Rep.yw (Rep.prod Rep.GH (Rep.prod Rep.yZ (Rep.prod (Rep.slice aU) (Rep.prod aU (Rep.prod Rep.bool (Rep.prod Rep.TK Rep.unit)))))) (fun s=>(s.2.1,(s.1.of,(s.1.rest,(s.1.best,(s.1.some,(s.2.2,()))))))) (fun t=>(⟨t.2.1,t.2.2.1,t.2.2.2.1,t.2.2.2.2.1⟩,t.1,t.2.2.2.2.2.1)) (fun _=>rfl)
theorem ay.l0:Lens ay.rep Rep.GH 0 (fun x=>x.2.1) (fun x y=>(x.1,y,x.2.2)):=(Lens.yw _ _ _ _).comp (Lens.fst _ _)
theorem ay.l1:Lens ay.rep Rep.yZ 1 (fun x=>x.1.of) (fun x y=>({ x.1 with of:=y },x.2)):=(Lens.yw _ _ _ _).comp ((Lens.snd _ _).comp (Lens.fst _ _))
theorem ay.l2:Lens ay.rep (Rep.slice aU) 2 (fun x=>x.1.rest) (fun x y=>({ x.1 with rest:=y },x.2)):=(Lens.yw _ _ _ _).comp ((Lens.snd _ _).comp ((Lens.snd _ _).comp (Lens.fst _ _)))
theorem ay.l3:Lens ay.rep aU 3 (fun x=>x.1.best) (fun x y=>({ x.1 with best:=y },x.2)):=(Lens.yw _ _ _ _).comp ((Lens.snd _ _).comp ((Lens.snd _ _).comp ((Lens.snd _ _).comp (Lens.fst _ _))))
theorem ay.l4:Lens ay.rep Rep.bool 4 (fun x=>x.1.some) (fun x y=>({ x.1 with some:=y },x.2)):=(Lens.yw _ _ _ _).comp ((Lens.snd _ _).comp ((Lens.snd _ _).comp ((Lens.snd _ _).comp ((Lens.snd _ _).comp (Lens.fst _ _)))))
theorem ay.l5:Lens ay.rep Rep.TK 5 (fun x=>x.2.2) (fun x y=>(x.1,x.2.1,y)):=(Lens.yw _ _ _ _).comp ((Lens.snd _ _).comp ((Lens.snd _ _).comp ((Lens.snd _ _).comp ((Lens.snd _ _).comp ((Lens.snd _ _).comp (Lens.fst _ _))))))
structure dB where
  iH:Int
  Chain:(List Str)
  iq:Str
def dB.rep:Rep dB:=Rep.yw (Rep.prod aU (Rep.prod (Rep.slice Rep.str) (Rep.prod Rep.str Rep.unit))) (fun s=>(s.iH,(s.Chain,(s.iq,())))) (fun t=>⟨t.1,t.2.1,t.2.2.1⟩) (fun _=>rfl)
def dB.ok (y:dB):Prop:=(gI .i64) y.iH∧(gL gS) y.Chain∧gS y.iq∧True
theorem dB.l0:Lens dB.rep aU 0 (fun x=>x.iH) (fun x y=>{ x with iH:=y }):=(Lens.yw _ _ _ _).comp (Lens.fst _ _)
theorem dB.l1:Lens dB.rep (Rep.slice Rep.str) 1 (fun x=>x.Chain) (fun x y=>{ x with Chain:=y }):=(Lens.yw _ _ _ _).comp ((Lens.snd _ _).comp (Lens.fst _ _))
theorem dB.l2:Lens dB.rep Rep.str 2 (fun x=>x.iq) (fun x y=>{ x with iq:=y }):=(Lens.yw _ _ _ _).comp ((Lens.snd _ _).comp ((Lens.snd _ _).comp (Lens.fst _ _)))
abbrev CP:=kJ.rep
abbrev fP:=bU.rep
abbrev sG:=iD.rep
abbrev zx:=jF.rep
abbrev qP:=dL.rep
abbrev yg:=jH.rep
abbrev bg:=GWork.rep
abbrev iZ:=GSlot.rep
abbrev ai:=ah.rep
abbrev bV:=cu.rep
abbrev qW:=dN.rep
abbrev aF:=aB.rep
abbrev bH:=ay.rep
abbrev eU:=dB.rep
end Go.KB
