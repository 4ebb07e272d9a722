/- Go's types as Lean types. Printed by a program. No condition. -/
import Derived.Test.YtjbnolcahodkkaaGreatKZf
import Derived.Test.YtjbnolcahodkkaaGreatKZg
namespace Go.KB
abbrev r_i8:Rep Int:=Rep.int .i8
abbrev r_i16:Rep Int:=Rep.int .i16
abbrev r_i32:Rep Int:=Rep.int .i32
abbrev bG:Rep Int:=Rep.int .i64
abbrev r_u8:Rep Int:=Rep.int .u8
abbrev r_u16:Rep Int:=Rep.int .u16
abbrev r_u32:Rep Int:=Rep.int .u32
abbrev r_u64:Rep Int:=Rep.int .u64
structure xX where
  LD:Int
  Dy:Int
def xX.rep:Rep xX:=Rep.uY (Rep.prod bG (Rep.prod bG Rep.unit)) (fun s=>(s.LD,(s.Dy,()))) (fun t=>⟨t.1,t.2.1⟩) (fun _=>rfl)
def xX.ok (y:xX):Prop:=(gI .i64) y.LD∧(gI .i64) y.Dy∧True
theorem xX.l0:Lens xX.rep bG 0 (fun x=>x.LD) (fun x y=>{ x with LD:=y }):=(Lens.uY _ _ _ _).comp (Lens.fst _ _)
theorem xX.l1:Lens xX.rep bG 1 (fun x=>x.Dy) (fun x y=>{ x with Dy:=y }):=(Lens.uY _ _ _ _).comp ((Lens.snd _ _).comp (Lens.fst _ _))
structure fQ where
  Name:Str
  tK:Str
  Modes:(List xX)
  Space:Str
  Kind:Int
  Gy:Bool
  After:(List Str)
def fQ.rep:Rep fQ:=Rep.uY (Rep.prod Rep.str (Rep.prod Rep.str (Rep.prod (Rep.slice xX.rep) (Rep.prod Rep.str (Rep.prod bG (Rep.prod Rep.bool (Rep.prod (Rep.slice Rep.str) Rep.unit))))))) (fun s=>(s.Name,(s.tK,(s.Modes,(s.Space,(s.Kind,(s.Gy,(s.After,())))))))) (fun t=>⟨t.1,t.2.1,t.2.2.1,t.2.2.2.1,t.2.2.2.2.1,t.2.2.2.2.2.1,t.2.2.2.2.2.2.1⟩) (fun _=>rfl)
def fQ.ok (y:fQ):Prop:=gS y.Name∧gS y.tK∧(gL xX.ok) y.Modes∧gS y.Space∧(gI .i64) y.Kind∧(fun _=>True) y.Gy∧(gL gS) y.After∧True
theorem fQ.l0:Lens fQ.rep Rep.str 0 (fun x=>x.Name) (fun x y=>{ x with Name:=y }):=(Lens.uY _ _ _ _).comp (Lens.fst _ _)
theorem fQ.l1:Lens fQ.rep Rep.str 1 (fun x=>x.tK) (fun x y=>{ x with tK:=y }):=(Lens.uY _ _ _ _).comp ((Lens.snd _ _).comp (Lens.fst _ _))
theorem fQ.l2:Lens fQ.rep (Rep.slice xX.rep) 2 (fun x=>x.Modes) (fun x y=>{ x with Modes:=y }):=(Lens.uY _ _ _ _).comp ((Lens.snd _ _).comp ((Lens.snd _ _).comp (Lens.fst _ _)))
theorem fQ.l3:Lens fQ.rep Rep.str 3 (fun x=>x.Space) (fun x y=>{ x with Space:=y }):=(Lens.uY _ _ _ _).comp ((Lens.snd _ _).comp ((Lens.snd _ _).comp ((Lens.snd _ _).comp (Lens.fst _ _))))
theorem fQ.l4:Lens fQ.rep bG 4 (fun x=>x.Kind) (fun x y=>{ x with Kind:=y }):=(Lens.uY _ _ _ _).comp ((Lens.snd _ _).comp ((Lens.snd _ _).comp ((Lens.snd _ _).comp ((Lens.snd _ _).comp (Lens.fst _ _)))))
theorem fQ.l5:Lens fQ.rep Rep.bool 5 (fun x=>x.Gy) (fun x y=>{ x with Gy:=y }):=(Lens.uY _ _ _ _).comp ((Lens.snd _ _).comp ((Lens.snd _ _).comp ((Lens.snd _ _).comp ((Lens.snd _ _).comp ((Lens.snd _ _).comp (Lens.fst _ _))))))
theorem fQ.l6:Lens fQ.rep (Rep.slice Rep.str) 6 (fun x=>x.After) (fun x y=>{ x with After:=y }):=(Lens.uY _ _ _ _).comp ((Lens.snd _ _).comp ((Lens.snd _ _).comp ((Lens.snd _ _).comp ((Lens.snd _ _).comp ((Lens.snd _ _).comp ((Lens.snd _ _).comp (Lens.fst _ _)))))))
structure nT where
  Name:Str
  Dy:Int
  Yt:Int
def nT.rep:Rep nT:=Rep.uY (Rep.prod Rep.str (Rep.prod bG (Rep.prod bG Rep.unit))) (fun s=>(s.Name,(s.Dy,(s.Yt,())))) (fun t=>⟨t.1,t.2.1,t.2.2.1⟩) (fun _=>rfl)
def nT.ok (y:nT):Prop:=gS y.Name∧(gI .i64) y.Dy∧(gI .i64) y.Yt∧True
theorem nT.l0:Lens nT.rep Rep.str 0 (fun x=>x.Name) (fun x y=>{ x with Name:=y }):=(Lens.uY _ _ _ _).comp (Lens.fst _ _)
theorem nT.l1:Lens nT.rep bG 1 (fun x=>x.Dy) (fun x y=>{ x with Dy:=y }):=(Lens.uY _ _ _ _).comp ((Lens.snd _ _).comp (Lens.fst _ _))
theorem nT.l2:Lens nT.rep bG 2 (fun x=>x.Yt) (fun x y=>{ x with Yt:=y }):=(Lens.uY _ _ _ _).comp ((Lens.snd _ _).comp ((Lens.snd _ _).comp (Lens.fst _ _)))
structure dK where
  Name:Str
  fU:Bool
  Next:(List Str)
def dK.rep:Rep dK:=Rep.uY (Rep.prod Rep.str (Rep.prod Rep.bool (Rep.prod (Rep.slice Rep.str) Rep.unit))) (fun s=>(s.Name,(s.fU,(s.Next,())))) (fun t=>⟨t.1,t.2.1,t.2.2.1⟩) (fun _=>rfl)
def dK.ok (y:dK):Prop:=gS y.Name∧(fun _=>True) y.fU∧(gL gS) y.Next∧True
theorem dK.l0:Lens dK.rep Rep.str 0 (fun x=>x.Name) (fun x y=>{ x with Name:=y }):=(Lens.uY _ _ _ _).comp (Lens.fst _ _)
theorem dK.l1:Lens dK.rep Rep.bool 1 (fun x=>x.fU) (fun x y=>{ x with fU:=y }):=(Lens.uY _ _ _ _).comp ((Lens.snd _ _).comp (Lens.fst _ _))
theorem dK.l2:Lens dK.rep (Rep.slice Rep.str) 2 (fun x=>x.Next) (fun x y=>{ x with Next:=y }):=(Lens.uY _ _ _ _).comp ((Lens.snd _ _).comp ((Lens.snd _ _).comp (Lens.fst _ _)))
structure dH where
  A:Int
  B:Int
  Reach:Int
def dH.rep:Rep dH:=Rep.uY (Rep.prod bG (Rep.prod bG (Rep.prod bG Rep.unit))) (fun s=>(s.A,(s.B,(s.Reach,())))) (fun t=>⟨t.1,t.2.1,t.2.2.1⟩) (fun _=>rfl)
def dH.ok (y:dH):Prop:=(gI .i64) y.A∧(gI .i64) y.B∧(gI .i64) y.Reach∧True
theorem dH.l0:Lens dH.rep bG 0 (fun x=>x.A) (fun x y=>{ x with A:=y }):=(Lens.uY _ _ _ _).comp (Lens.fst _ _)
theorem dH.l1:Lens dH.rep bG 1 (fun x=>x.B) (fun x y=>{ x with B:=y }):=(Lens.uY _ _ _ _).comp ((Lens.snd _ _).comp (Lens.fst _ _))
theorem dH.l2:Lens dH.rep bG 2 (fun x=>x.Reach) (fun x y=>{ x with Reach:=y }):=(Lens.uY _ _ _ _).comp ((Lens.snd _ _).comp ((Lens.snd _ _).comp (Lens.fst _ _)))
structure nK where
  From:Int
  To:Int
def nK.rep:Rep nK:=Rep.uY (Rep.prod bG (Rep.prod bG Rep.unit)) (fun s=>(s.From,(s.To,()))) (fun t=>⟨t.1,t.2.1⟩) (fun _=>rfl)
def nK.ok (y:nK):Prop:=(gI .i64) y.From∧(gI .i64) y.To∧True
theorem nK.l0:Lens nK.rep bG 0 (fun x=>x.From) (fun x y=>{ x with From:=y }):=(Lens.uY _ _ _ _).comp (Lens.fst _ _)
theorem nK.l1:Lens nK.rep bG 1 (fun x=>x.To) (fun x y=>{ x with To:=y }):=(Lens.uY _ _ _ _).comp ((Lens.snd _ _).comp (Lens.fst _ _))
structure GWork where
  Items:(List fQ)
  fH:(List nT)
  bP:(List dK)
  aW:(List dH)
  iO:(List nK)
  Yu:Int
  Due:Int
  Late:Int
  Last:Int
def GWork.rep:Rep GWork:=Rep.uY (Rep.prod (Rep.slice fQ.rep) (Rep.prod (Rep.slice nT.rep) (Rep.prod (Rep.slice dK.rep) (Rep.prod (Rep.slice dH.rep) (Rep.prod (Rep.slice nK.rep) (Rep.prod bG (Rep.prod bG (Rep.prod bG (Rep.prod bG Rep.unit))))))))) (fun s=>(s.Items,(s.fH,(s.bP,(s.aW,(s.iO,(s.Yu,(s.Due,(s.Late,(s.Last,())))))))))) (fun t=>⟨t.1,t.2.1,t.2.2.1,t.2.2.2.1,t.2.2.2.2.1,t.2.2.2.2.2.1,t.2.2.2.2.2.2.1,t.2.2.2.2.2.2.2.1,t.2.2.2.2.2.2.2.2.1⟩) (fun _=>rfl)
def GWork.ok (y:GWork):Prop:=(gL fQ.ok) y.Items∧(gL nT.ok) y.fH∧(gL dK.ok) y.bP∧(gL dH.ok) y.aW∧(gL nK.ok) y.iO∧(gI .i64) y.Yu∧(gI .i64) y.Due∧(gI .i64) y.Late∧(gI .i64) y.Last∧True
theorem GWork.l0:Lens GWork.rep (Rep.slice fQ.rep) 0 (fun x=>x.Items) (fun x y=>{ x with Items:=y }):=(Lens.uY _ _ _ _).comp (Lens.fst _ _)
theorem GWork.l1:Lens GWork.rep (Rep.slice nT.rep) 1 (fun x=>x.fH) (fun x y=>{ x with fH:=y }):=(Lens.uY _ _ _ _).comp ((Lens.snd _ _).comp (Lens.fst _ _))
theorem GWork.l2:Lens GWork.rep (Rep.slice dK.rep) 2 (fun x=>x.bP) (fun x y=>{ x with bP:=y }):=(Lens.uY _ _ _ _).comp ((Lens.snd _ _).comp ((Lens.snd _ _).comp (Lens.fst _ _)))
theorem GWork.l3:Lens GWork.rep (Rep.slice dH.rep) 3 (fun x=>x.aW) (fun x y=>{ x with aW:=y }):=(Lens.uY _ _ _ _).comp ((Lens.snd _ _).comp ((Lens.snd _ _).comp ((Lens.snd _ _).comp (Lens.fst _ _))))
theorem GWork.l4:Lens GWork.rep (Rep.slice nK.rep) 4 (fun x=>x.iO) (fun x y=>{ x with iO:=y }):=(Lens.uY _ _ _ _).comp ((Lens.snd _ _).comp ((Lens.snd _ _).comp ((Lens.snd _ _).comp ((Lens.snd _ _).comp (Lens.fst _ _)))))
theorem GWork.l5:Lens GWork.rep bG 5 (fun x=>x.Yu) (fun x y=>{ x with Yu:=y }):=(Lens.uY _ _ _ _).comp ((Lens.snd _ _).comp ((Lens.snd _ _).comp ((Lens.snd _ _).comp ((Lens.snd _ _).comp ((Lens.snd _ _).comp (Lens.fst _ _))))))
theorem GWork.l6:Lens GWork.rep bG 6 (fun x=>x.Due) (fun x y=>{ x with Due:=y }):=(Lens.uY _ _ _ _).comp ((Lens.snd _ _).comp ((Lens.snd _ _).comp ((Lens.snd _ _).comp ((Lens.snd _ _).comp ((Lens.snd _ _).comp ((Lens.snd _ _).comp (Lens.fst _ _)))))))
theorem GWork.l7:Lens GWork.rep bG 7 (fun x=>x.Late) (fun x y=>{ x with Late:=y }):=(Lens.uY _ _ _ _).comp ((Lens.snd _ _).comp ((Lens.snd _ _).comp ((Lens.snd _ _).comp ((Lens.snd _ _).comp ((Lens.snd _ _).comp ((Lens.snd _ _).comp ((Lens.snd _ _).comp (Lens.fst _ _))))))))
theorem GWork.l8:Lens GWork.rep bG 8 (fun x=>x.Last) (fun x y=>{ x with Last:=y }):=(Lens.uY _ _ _ _).comp ((Lens.snd _ _).comp ((Lens.snd _ _).comp ((Lens.snd _ _).comp ((Lens.snd _ _).comp ((Lens.snd _ _).comp ((Lens.snd _ _).comp ((Lens.snd _ _).comp ((Lens.snd _ _).comp (Lens.fst _ _)))))))))
structure GSlot where
  Item:Str
  Mode:Int
  Day:Int
def GSlot.rep:Rep GSlot:=Rep.uY (Rep.prod Rep.str (Rep.prod bG (Rep.prod bG Rep.unit))) (fun s=>(s.Item,(s.Mode,(s.Day,())))) (fun t=>⟨t.1,t.2.1,t.2.2.1⟩) (fun _=>rfl)
def GSlot.ok (y:GSlot):Prop:=gS y.Item∧(gI .i64) y.Mode∧(gI .i64) y.Day∧True
theorem GSlot.l0:Lens GSlot.rep Rep.str 0 (fun x=>x.Item) (fun x y=>{ x with Item:=y }):=(Lens.uY _ _ _ _).comp (Lens.fst _ _)
theorem GSlot.l1:Lens GSlot.rep bG 1 (fun x=>x.Mode) (fun x y=>{ x with Mode:=y }):=(Lens.uY _ _ _ _).comp ((Lens.snd _ _).comp (Lens.fst _ _))
theorem GSlot.l2:Lens GSlot.rep bG 2 (fun x=>x.Day) (fun x y=>{ x with Day:=y }):=(Lens.uY _ _ _ _).comp ((Lens.snd _ _).comp ((Lens.snd _ _).comp (Lens.fst _ _)))
structure aK where
  mode:Int
  day:Int
  on:Bool
def aK.rep:Rep aK:=Rep.uY (Rep.prod bG (Rep.prod bG (Rep.prod Rep.bool Rep.unit))) (fun s=>(s.mode,(s.day,(s.on,())))) (fun t=>⟨t.1,t.2.1,t.2.2.1⟩) (fun _=>rfl)
def aK.ok (y:aK):Prop:=(gI .i64) y.mode∧(gI .i64) y.day∧(fun _=>True) y.on∧True
theorem aK.l0:Lens aK.rep bG 0 (fun x=>x.mode) (fun x y=>{ x with mode:=y }):=(Lens.uY _ _ _ _).comp (Lens.fst _ _)
theorem aK.l1:Lens aK.rep bG 1 (fun x=>x.day) (fun x y=>{ x with day:=y }):=(Lens.uY _ _ _ _).comp ((Lens.snd _ _).comp (Lens.fst _ _))
theorem aK.l2:Lens aK.rep Rep.bool 2 (fun x=>x.on) (fun x y=>{ x with on:=y }):=(Lens.uY _ _ _ _).comp ((Lens.snd _ _).comp ((Lens.snd _ _).comp (Lens.fst _ _)))
structure dU where
  A:Str
  B:Str
  Reason:Int
def dU.rep:Rep dU:=Rep.uY (Rep.prod Rep.str (Rep.prod Rep.str (Rep.prod bG Rep.unit))) (fun s=>(s.A,(s.B,(s.Reason,())))) (fun t=>⟨t.1,t.2.1,t.2.2.1⟩) (fun _=>rfl)
def dU.ok (y:dU):Prop:=gS y.A∧gS y.B∧(gI .i64) y.Reason∧True
theorem dU.l0:Lens dU.rep Rep.str 0 (fun x=>x.A) (fun x y=>{ x with A:=y }):=(Lens.uY _ _ _ _).comp (Lens.fst _ _)
theorem dU.l1:Lens dU.rep Rep.str 1 (fun x=>x.B) (fun x y=>{ x with B:=y }):=(Lens.uY _ _ _ _).comp ((Lens.snd _ _).comp (Lens.fst _ _))
theorem dU.l2:Lens dU.rep bG 2 (fun x=>x.Reason) (fun x y=>{ x with Reason:=y }):=(Lens.uY _ _ _ _).comp ((Lens.snd _ _).comp ((Lens.snd _ _).comp (Lens.fst _ _)))
structure fM where
  find:(Option Nat)
def fM.rep:Rep fM:=Rep.uY (Rep.prod Rep.Qy Rep.unit) (fun s=>(s.find,())) (fun t=>⟨t.1⟩) (fun _=>rfl)
theorem fM.l0:Lens fM.rep Rep.Qy 0 (fun x=>x.find) (fun x y=>{ x with find:=y }):=(Lens.uY _ _ _ _).comp (Lens.fst _ _)
structure oV where
  Item:Str
  Space:Str
  Kind:Int
  From:Int
  To:Int
def oV.rep:Rep oV:=Rep.uY (Rep.prod Rep.str (Rep.prod Rep.str (Rep.prod bG (Rep.prod bG (Rep.prod bG Rep.unit))))) (fun s=>(s.Item,(s.Space,(s.Kind,(s.From,(s.To,())))))) (fun t=>⟨t.1,t.2.1,t.2.2.1,t.2.2.2.1,t.2.2.2.2.1⟩) (fun _=>rfl)
def oV.ok (y:oV):Prop:=gS y.Item∧gS y.Space∧(gI .i64) y.Kind∧(gI .i64) y.From∧(gI .i64) y.To∧True
theorem oV.l0:Lens oV.rep Rep.str 0 (fun x=>x.Item) (fun x y=>{ x with Item:=y }):=(Lens.uY _ _ _ _).comp (Lens.fst _ _)
theorem oV.l1:Lens oV.rep Rep.str 1 (fun x=>x.Space) (fun x y=>{ x with Space:=y }):=(Lens.uY _ _ _ _).comp ((Lens.snd _ _).comp (Lens.fst _ _))
theorem oV.l2:Lens oV.rep bG 2 (fun x=>x.Kind) (fun x y=>{ x with Kind:=y }):=(Lens.uY _ _ _ _).comp ((Lens.snd _ _).comp ((Lens.snd _ _).comp (Lens.fst _ _)))
theorem oV.l3:Lens oV.rep bG 3 (fun x=>x.From) (fun x y=>{ x with From:=y }):=(Lens.uY _ _ _ _).comp ((Lens.snd _ _).comp ((Lens.snd _ _).comp ((Lens.snd _ _).comp (Lens.fst _ _))))
theorem oV.l4:Lens oV.rep bG 4 (fun x=>x.To) (fun x y=>{ x with To:=y }):=(Lens.uY _ _ _ _).comp ((Lens.snd _ _).comp ((Lens.snd _ _).comp ((Lens.snd _ _).comp ((Lens.snd _ _).comp (Lens.fst _ _)))))
structure aQ where
  Name:Str
  Kind:Int
  Space:Str
  From:Int
  To:Int
  Locks:(List Str)
def aQ.rep:Rep aQ:=Rep.uY (Rep.prod Rep.str (Rep.prod bG (Rep.prod Rep.str (Rep.prod bG (Rep.prod bG (Rep.prod (Rep.slice Rep.str) Rep.unit)))))) (fun s=>(s.Name,(s.Kind,(s.Space,(s.From,(s.To,(s.Locks,()))))))) (fun t=>⟨t.1,t.2.1,t.2.2.1,t.2.2.2.1,t.2.2.2.2.1,t.2.2.2.2.2.1⟩) (fun _=>rfl)
def aQ.ok (y:aQ):Prop:=gS y.Name∧(gI .i64) y.Kind∧gS y.Space∧(gI .i64) y.From∧(gI .i64) y.To∧(gL gS) y.Locks∧True
theorem aQ.l0:Lens aQ.rep Rep.str 0 (fun x=>x.Name) (fun x y=>{ x with Name:=y }):=(Lens.uY _ _ _ _).comp (Lens.fst _ _)
theorem aQ.l1:Lens aQ.rep bG 1 (fun x=>x.Kind) (fun x y=>{ x with Kind:=y }):=(Lens.uY _ _ _ _).comp ((Lens.snd _ _).comp (Lens.fst _ _))
theorem aQ.l2:Lens aQ.rep Rep.str 2 (fun x=>x.Space) (fun x y=>{ x with Space:=y }):=(Lens.uY _ _ _ _).comp ((Lens.snd _ _).comp ((Lens.snd _ _).comp (Lens.fst _ _)))
theorem aQ.l3:Lens aQ.rep bG 3 (fun x=>x.From) (fun x y=>{ x with From:=y }):=(Lens.uY _ _ _ _).comp ((Lens.snd _ _).comp ((Lens.snd _ _).comp ((Lens.snd _ _).comp (Lens.fst _ _))))
theorem aQ.l4:Lens aQ.rep bG 4 (fun x=>x.To) (fun x y=>{ x with To:=y }):=(Lens.uY _ _ _ _).comp ((Lens.snd _ _).comp ((Lens.snd _ _).comp ((Lens.snd _ _).comp ((Lens.snd _ _).comp (Lens.fst _ _)))))
theorem aQ.l5:Lens aQ.rep (Rep.slice Rep.str) 5 (fun x=>x.Locks) (fun x y=>{ x with Locks:=y }):=(Lens.uY _ _ _ _).comp ((Lens.snd _ _).comp ((Lens.snd _ _).comp ((Lens.snd _ _).comp ((Lens.snd _ _).comp ((Lens.snd _ _).comp (Lens.fst _ _))))))
structure ax where
  bP:(List dK)
  aW:(List dH)
  aO:(List aQ)
  gY:Int
def ax.rep:Rep ax:=Rep.uY (Rep.prod (Rep.slice dK.rep) (Rep.prod (Rep.slice dH.rep) (Rep.prod (Rep.slice aQ.rep) (Rep.prod bG Rep.unit)))) (fun s=>(s.bP,(s.aW,(s.aO,(s.gY,()))))) (fun t=>⟨t.1,t.2.1,t.2.2.1,t.2.2.2.1⟩) (fun _=>rfl)
def ax.ok (y:ax):Prop:=(gL dK.ok) y.bP∧(gL dH.ok) y.aW∧(gL aQ.ok) y.aO∧(gI .i64) y.gY∧True
theorem ax.l0:Lens ax.rep (Rep.slice dK.rep) 0 (fun x=>x.bP) (fun x y=>{ x with bP:=y }):=(Lens.uY _ _ _ _).comp (Lens.fst _ _)
theorem ax.l1:Lens ax.rep (Rep.slice dH.rep) 1 (fun x=>x.aW) (fun x y=>{ x with aW:=y }):=(Lens.uY _ _ _ _).comp ((Lens.snd _ _).comp (Lens.fst _ _))
theorem ax.l2:Lens ax.rep (Rep.slice aQ.rep) 2 (fun x=>x.aO) (fun x y=>{ x with aO:=y }):=(Lens.uY _ _ _ _).comp ((Lens.snd _ _).comp ((Lens.snd _ _).comp (Lens.fst _ _)))
theorem ax.l3:Lens ax.rep bG 3 (fun x=>x.gY) (fun x y=>{ x with gY:=y }):=(Lens.uY _ _ _ _).comp ((Lens.snd _ _).comp ((Lens.snd _ _).comp ((Lens.snd _ _).comp (Lens.fst _ _))))
structure cu where
  At:Int
  Op:Int
  Name:Str
  Space:Str
  Person:Str
  Bo:Int
  V7:Int
  To:Int
def cu.rep:Rep cu:=Rep.uY (Rep.prod bG (Rep.prod bG (Rep.prod Rep.str (Rep.prod Rep.str (Rep.prod Rep.str (Rep.prod bG (Rep.prod bG (Rep.prod bG Rep.unit)))))))) (fun s=>(s.At,(s.Op,(s.Name,(s.Space,(s.Person,(s.Bo,(s.V7,(s.To,()))))))))) (fun t=>⟨t.1,t.2.1,t.2.2.1,t.2.2.2.1,t.2.2.2.2.1,t.2.2.2.2.2.1,t.2.2.2.2.2.2.1,t.2.2.2.2.2.2.2.1⟩) (fun _=>rfl)
def cu.ok (y:cu):Prop:=(gI .i64) y.At∧(gI .i64) y.Op∧gS y.Name∧gS y.Space∧gS y.Person∧(gI .i64) y.Bo∧(gI .i64) y.V7∧(gI .i64) y.To∧True
theorem cu.l0:Lens cu.rep bG 0 (fun x=>x.At) (fun x y=>{ x with At:=y }):=(Lens.uY _ _ _ _).comp (Lens.fst _ _)
theorem cu.l1:Lens cu.rep bG 1 (fun x=>x.Op) (fun x y=>{ x with Op:=y }):=(Lens.uY _ _ _ _).comp ((Lens.snd _ _).comp (Lens.fst _ _))
theorem cu.l2:Lens cu.rep Rep.str 2 (fun x=>x.Name) (fun x y=>{ x with Name:=y }):=(Lens.uY _ _ _ _).comp ((Lens.snd _ _).comp ((Lens.snd _ _).comp (Lens.fst _ _)))
theorem cu.l3:Lens cu.rep Rep.str 3 (fun x=>x.Space) (fun x y=>{ x with Space:=y }):=(Lens.uY _ _ _ _).comp ((Lens.snd _ _).comp ((Lens.snd _ _).comp ((Lens.snd _ _).comp (Lens.fst _ _))))
theorem cu.l4:Lens cu.rep Rep.str 4 (fun x=>x.Person) (fun x y=>{ x with Person:=y }):=(Lens.uY _ _ _ _).comp ((Lens.snd _ _).comp ((Lens.snd _ _).comp ((Lens.snd _ _).comp ((Lens.snd _ _).comp (Lens.fst _ _)))))
theorem cu.l5:Lens cu.rep bG 5 (fun x=>x.Bo) (fun x y=>{ x with Bo:=y }):=(Lens.uY _ _ _ _).comp ((Lens.snd _ _).comp ((Lens.snd _ _).comp ((Lens.snd _ _).comp ((Lens.snd _ _).comp ((Lens.snd _ _).comp (Lens.fst _ _))))))
theorem cu.l6:Lens cu.rep bG 6 (fun x=>x.V7) (fun x y=>{ x with V7:=y }):=(Lens.uY _ _ _ _).comp ((Lens.snd _ _).comp ((Lens.snd _ _).comp ((Lens.snd _ _).comp ((Lens.snd _ _).comp ((Lens.snd _ _).comp ((Lens.snd _ _).comp (Lens.fst _ _)))))))
theorem cu.l7:Lens cu.rep bG 7 (fun x=>x.To) (fun x y=>{ x with To:=y }):=(Lens.uY _ _ _ _).comp ((Lens.snd _ _).comp ((Lens.snd _ _).comp ((Lens.snd _ _).comp ((Lens.snd _ _).comp ((Lens.snd _ _).comp ((Lens.snd _ _).comp ((Lens.snd _ _).comp (Lens.fst _ _))))))))
structure ah where
  plan:ax
  now:Int
  done:(List cu)
def ah.rep:Rep (ah×Value×Value×Value):=Rep.uY (Rep.prod ax.rep (Rep.prod bG (Rep.prod Rep.Jv (Rep.prod Rep.Jv (Rep.prod Rep.Jv (Rep.prod (Rep.slice cu.rep) Rep.unit)))))) (fun s=>(s.1.plan,(s.1.now,(s.2.1,(s.2.2.1,(s.2.2.2,(s.1.done,()))))))) (fun t=>(⟨t.1,t.2.1,t.2.2.2.2.2.1⟩,t.2.2.1,t.2.2.2.1,t.2.2.2.2.1)) (fun _=>rfl)
theorem ah.l0:Lens ah.rep ax.rep 0 (fun x=>x.1.plan) (fun x y=>({ x.1 with plan:=y },x.2)):=(Lens.uY _ _ _ _).comp (Lens.fst _ _)
theorem ah.l1:Lens ah.rep bG 4 (fun x=>x.1.now) (fun x y=>({ x.1 with now:=y },x.2)):=(Lens.uY _ _ _ _).comp ((Lens.snd _ _).comp (Lens.fst _ _))
theorem ah.l2:Lens ah.rep Rep.Jv 5 (fun x=>x.2.1) (fun x y=>(x.1,y,x.2.2.1,x.2.2.2)):=(Lens.uY _ _ _ _).comp ((Lens.snd _ _).comp ((Lens.snd _ _).comp (Lens.fst _ _)))
theorem ah.l3:Lens ah.rep Rep.Jv 6 (fun x=>x.2.2.1) (fun x y=>(x.1,x.2.1,y,x.2.2.2)):=(Lens.uY _ _ _ _).comp ((Lens.snd _ _).comp ((Lens.snd _ _).comp ((Lens.snd _ _).comp (Lens.fst _ _))))
theorem ah.l4:Lens ah.rep Rep.Jv 7 (fun x=>x.2.2.2) (fun x y=>(x.1,x.2.1,x.2.2.1,y)):=(Lens.uY _ _ _ _).comp ((Lens.snd _ _).comp ((Lens.snd _ _).comp ((Lens.snd _ _).comp ((Lens.snd _ _).comp (Lens.fst _ _)))))
theorem ah.l5:Lens ah.rep (Rep.slice cu.rep) 8 (fun x=>x.1.done) (fun x y=>({ x.1 with done:=y },x.2)):=(Lens.uY _ _ _ _).comp ((Lens.snd _ _).comp ((Lens.snd _ _).comp ((Lens.snd _ _).comp ((Lens.snd _ _).comp ((Lens.snd _ _).comp (Lens.fst _ _))))))
structure ai where
  state:Int
  N9:Str
  Es:Int
def ai.rep:Rep ai:=Rep.uY (Rep.prod bG (Rep.prod Rep.str (Rep.prod bG Rep.unit))) (fun s=>(s.state,(s.N9,(s.Es,())))) (fun t=>⟨t.1,t.2.1,t.2.2.1⟩) (fun _=>rfl)
def ai.ok (y:ai):Prop:=(gI .i64) y.state∧gS y.N9∧(gI .i64) y.Es∧True
theorem ai.l0:Lens ai.rep bG 0 (fun x=>x.state) (fun x y=>{ x with state:=y }):=(Lens.uY _ _ _ _).comp (Lens.fst _ _)
theorem ai.l1:Lens ai.rep Rep.str 1 (fun x=>x.N9) (fun x y=>{ x with N9:=y }):=(Lens.uY _ _ _ _).comp ((Lens.snd _ _).comp (Lens.fst _ _))
theorem ai.l2:Lens ai.rep bG 2 (fun x=>x.Es) (fun x y=>{ x with Es:=y }):=(Lens.uY _ _ _ _).comp ((Lens.snd _ _).comp ((Lens.snd _ _).comp (Lens.fst _ _)))
structure au where
  at_:Int
  pR:Int
  Yf:Int
def au.rep:Rep au:=Rep.uY (Rep.prod bG (Rep.prod bG (Rep.prod bG Rep.unit))) (fun s=>(s.at_,(s.pR,(s.Yf,())))) (fun t=>⟨t.1,t.2.1,t.2.2.1⟩) (fun _=>rfl)
def au.ok (y:au):Prop:=(gI .i64) y.at_∧(gI .i64) y.pR∧(gI .i64) y.Yf∧True
theorem au.l0:Lens au.rep bG 0 (fun x=>x.at_) (fun x y=>{ x with at_:=y }):=(Lens.uY _ _ _ _).comp (Lens.fst _ _)
theorem au.l1:Lens au.rep bG 1 (fun x=>x.pR) (fun x y=>{ x with pR:=y }):=(Lens.uY _ _ _ _).comp ((Lens.snd _ _).comp (Lens.fst _ _))
theorem au.l2:Lens au.rep bG 2 (fun x=>x.Yf) (fun x y=>{ x with Yf:=y }):=(Lens.uY _ _ _ _).comp ((Lens.snd _ _).comp ((Lens.snd _ _).comp (Lens.fst _ _)))
structure bV where
  word:Str
  fields:Str
  states:(List Int)
  TT:(Option Nat)
def bV.rep:Rep bV:=Rep.uY (Rep.prod Rep.str (Rep.prod Rep.str (Rep.prod (Rep.LC bG) (Rep.prod Rep.Qy Rep.unit)))) (fun s=>(s.word,(s.fields,(s.states,(s.TT,()))))) (fun t=>⟨t.1,t.2.1,t.2.2.1,t.2.2.2.1⟩) (fun _=>rfl)
theorem bV.l0:Lens bV.rep Rep.str 0 (fun x=>x.word) (fun x y=>{ x with word:=y }):=(Lens.uY _ _ _ _).comp (Lens.fst _ _)
theorem bV.l1:Lens bV.rep Rep.str 1 (fun x=>x.fields) (fun x y=>{ x with fields:=y }):=(Lens.uY _ _ _ _).comp ((Lens.snd _ _).comp (Lens.fst _ _))
theorem bV.l2:Lens bV.rep (Rep.LC bG) 2 (fun x=>x.states) (fun x y=>{ x with states:=y }):=(Lens.uY _ _ _ _).comp ((Lens.snd _ _).comp ((Lens.snd _ _).comp (Lens.fst _ _)))
theorem bV.l3:Lens bV.rep Rep.Qy 3 (fun x=>x.TT) (fun x y=>{ x with TT:=y }):=(Lens.uY _ _ _ _).comp ((Lens.snd _ _).comp ((Lens.snd _ _).comp ((Lens.snd _ _).comp (Lens.fst _ _))))
structure ay where
  names:(List Str)
  e:Int
def ay.rep:Rep ay:=Rep.uY (Rep.prod (Rep.slice Rep.str) (Rep.prod bG Rep.unit)) (fun s=>(s.names,(s.e,()))) (fun t=>⟨t.1,t.2.1⟩) (fun _=>rfl)
def ay.ok (y:ay):Prop:=(gL gS) y.names∧(gI .i64) y.e∧True
theorem ay.l0:Lens ay.rep (Rep.slice Rep.str) 0 (fun x=>x.names) (fun x y=>{ x with names:=y }):=(Lens.uY _ _ _ _).comp (Lens.fst _ _)
theorem ay.l1:Lens ay.rep bG 1 (fun x=>x.e) (fun x y=>{ x with e:=y }):=(Lens.uY _ _ _ _).comp ((Lens.snd _ _).comp (Lens.fst _ _))
structure dG where
  Err:Int
  Names:(List Str)
def dG.rep:Rep dG:=Rep.uY (Rep.prod bG (Rep.prod (Rep.slice Rep.str) Rep.unit)) (fun s=>(s.Err,(s.Names,()))) (fun t=>⟨t.1,t.2.1⟩) (fun _=>rfl)
def dG.ok (y:dG):Prop:=(gI .i64) y.Err∧(gL gS) y.Names∧True
theorem dG.l0:Lens dG.rep bG 0 (fun x=>x.Err) (fun x y=>{ x with Err:=y }):=(Lens.uY _ _ _ _).comp (Lens.fst _ _)
theorem dG.l1:Lens dG.rep (Rep.slice Rep.str) 1 (fun x=>x.Names) (fun x y=>{ x with Names:=y }):=(Lens.uY _ _ _ _).comp ((Lens.snd _ _).comp (Lens.fst _ _))
abbrev Zw:=xX.rep
abbrev qx:=fQ.rep
abbrev BQ:=nT.rep
abbrev dS:=dK.rep
abbrev ku:=dH.rep
abbrev CP:=nK.rep
abbrev jH:=GWork.rep
abbrev II:=GSlot.rep
abbrev bC:=aK.rep
abbrev dM:=dU.rep
abbrev uw:=fM.rep
abbrev yM:=oV.rep
abbrev aU:=aQ.rep
abbrev bf:=ax.rep
abbrev fD:=cu.rep
abbrev cO:=ah.rep
abbrev bI:=ai.rep
abbrev dN:=au.rep
abbrev ug:=bV.rep
abbrev aA:=ay.rep
abbrev iJ:=dG.rep
abbrev fA (k:Nat) (g:ah) (a2 a3 a4 v:Value) (x2:(List (Str×ai))) (x3:(List (Str×au))) (x4:(List (Str×Str))):List (Nat×gG):=[(k,iI (gQ 89 ah.rep (g,a2,a3,a4) ([⟨8,51,cu.rep.sz⟩]:List fE)) v),(k+1,iI (eU fG ai.rep x2) a2),(k+2,iI (eU fG au.rep x3) a3),(k+3,iI (eU fG Rep.str x4) a4)]
abbrev oP0 (k:Nat) (g:ah) (a2 a3 a4 v:Value) (x2:(List (Str×ai))) (x3:(List (Str×au))) (x4:(List (Str×Str))):List (Nat×gG):=[(k,iI (gQ 89 ah.rep (g,a2,a3,a4) ([]:List fE)) v),(k+1,iI (eU fG ai.rep x2) a2),(k+2,iI (eU fG au.rep x3) a3),(k+3,iI (eU fG Rep.str x4) a4)]
end Go.KB
