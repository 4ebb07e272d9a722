/- Go's types as Lean types. Printed by a program. No condition. -/
import Derived.Test.YtoiefhkiipolmaaGreatKZf
namespace Go.KB
abbrev r_i8 : Rep Int := Rep.int .i8
abbrev r_i16 : Rep Int := Rep.int .i16
abbrev r_i32 : Rep Int := Rep.int .i32
abbrev r_i64 : Rep Int := Rep.int .i64
abbrev jMx : Rep Int := Rep.int .u8
abbrev jJu : Rep Int := Rep.int .u16
abbrev jQn : Rep Int := Rep.int .u32
abbrev jXd : Rep Int := Rep.int .u64
structure jJy where
  X : Int
  Width : Int
  Levels : (List Int)
  Halves : (List Int)
def jJy.rep : Rep jJy := Rep.iso (Rep.prod r_i64 (Rep.prod r_i64 (Rep.prod (Rep.slice r_i64) (Rep.prod (Rep.slice r_i64) Rep.unit)))) (fun s => (s.X, (s.Width, (s.Levels, (s.Halves, ()))))) (fun t => ⟨t.1, t.2.1, t.2.2.1, t.2.2.2.1⟩) (fun _ => rfl)
def jJy.ok (y : jJy) : Prop := (gI .i64) y.X ∧ (gI .i64) y.Width ∧ (gL (gI .i64)) y.Levels ∧ (gL (gI .i64)) y.Halves ∧ True
theorem jJy.l0 : Lens jJy.rep r_i64 0 (fun x => x.X) (fun x y => { x with X := y }) := (Lens.iso _ _ _ _).comp (Lens.fst _ _)
theorem jJy.l1 : Lens jJy.rep r_i64 1 (fun x => x.Width) (fun x y => { x with Width := y }) := (Lens.iso _ _ _ _).comp ((Lens.snd _ _).comp (Lens.fst _ _))
theorem jJy.l2 : Lens jJy.rep (Rep.slice r_i64) 2 (fun x => x.Levels) (fun x y => { x with Levels := y }) := (Lens.iso _ _ _ _).comp ((Lens.snd _ _).comp ((Lens.snd _ _).comp (Lens.fst _ _)))
theorem jJy.l3 : Lens jJy.rep (Rep.slice r_i64) 3 (fun x => x.Halves) (fun x y => { x with Halves := y }) := (Lens.iso _ _ _ _).comp ((Lens.snd _ _).comp ((Lens.snd _ _).comp ((Lens.snd _ _).comp (Lens.fst _ _))))
structure jQ5 where
  Name : Str
  Mass : Int
  X : Int
  Z : Int
  Free : Int
def jQ5.rep : Rep jQ5 := Rep.iso (Rep.prod Rep.str (Rep.prod r_i64 (Rep.prod r_i64 (Rep.prod r_i64 (Rep.prod r_i64 Rep.unit))))) (fun s => (s.Name, (s.Mass, (s.X, (s.Z, (s.Free, ())))))) (fun t => ⟨t.1, t.2.1, t.2.2.1, t.2.2.2.1, t.2.2.2.2.1⟩) (fun _ => rfl)
def jQ5.ok (y : jQ5) : Prop := gS y.Name ∧ (gI .i64) y.Mass ∧ (gI .i64) y.X ∧ (gI .i64) y.Z ∧ (gI .i64) y.Free ∧ True
theorem jQ5.l0 : Lens jQ5.rep Rep.str 0 (fun x => x.Name) (fun x y => { x with Name := y }) := (Lens.iso _ _ _ _).comp (Lens.fst _ _)
theorem jQ5.l1 : Lens jQ5.rep r_i64 1 (fun x => x.Mass) (fun x y => { x with Mass := y }) := (Lens.iso _ _ _ _).comp ((Lens.snd _ _).comp (Lens.fst _ _))
theorem jQ5.l2 : Lens jQ5.rep r_i64 2 (fun x => x.X) (fun x y => { x with X := y }) := (Lens.iso _ _ _ _).comp ((Lens.snd _ _).comp ((Lens.snd _ _).comp (Lens.fst _ _)))
theorem jQ5.l3 : Lens jQ5.rep r_i64 3 (fun x => x.Z) (fun x y => { x with Z := y }) := (Lens.iso _ _ _ _).comp ((Lens.snd _ _).comp ((Lens.snd _ _).comp ((Lens.snd _ _).comp (Lens.fst _ _))))
theorem jQ5.l4 : Lens jQ5.rep r_i64 4 (fun x => x.Free) (fun x y => { x with Free := y }) := (Lens.iso _ _ _ _).comp ((Lens.snd _ _).comp ((Lens.snd _ _).comp ((Lens.snd _ _).comp ((Lens.snd _ _).comp (Lens.fst _ _)))))
structure GShip where
  Name : Str
  Length : Int
  Stations : (List jJy)
  Light : jQ5
  Items : (List jQ5)
def GShip.rep : Rep GShip := Rep.iso (Rep.prod Rep.str (Rep.prod r_i64 (Rep.prod (Rep.slice jJy.rep) (Rep.prod jQ5.rep (Rep.prod (Rep.slice jQ5.rep) Rep.unit))))) (fun s => (s.Name, (s.Length, (s.Stations, (s.Light, (s.Items, ())))))) (fun t => ⟨t.1, t.2.1, t.2.2.1, t.2.2.2.1, t.2.2.2.2.1⟩) (fun _ => rfl)
def GShip.ok (y : GShip) : Prop := gS y.Name ∧ (gI .i64) y.Length ∧ (gL jJy.ok) y.Stations ∧ jQ5.ok y.Light ∧ (gL jQ5.ok) y.Items ∧ True
theorem GShip.l0 : Lens GShip.rep Rep.str 0 (fun x => x.Name) (fun x y => { x with Name := y }) := (Lens.iso _ _ _ _).comp (Lens.fst _ _)
theorem GShip.l1 : Lens GShip.rep r_i64 1 (fun x => x.Length) (fun x y => { x with Length := y }) := (Lens.iso _ _ _ _).comp ((Lens.snd _ _).comp (Lens.fst _ _))
theorem GShip.l2 : Lens GShip.rep (Rep.slice jJy.rep) 2 (fun x => x.Stations) (fun x y => { x with Stations := y }) := (Lens.iso _ _ _ _).comp ((Lens.snd _ _).comp ((Lens.snd _ _).comp (Lens.fst _ _)))
theorem GShip.l3 : Lens GShip.rep jQ5.rep 3 (fun x => x.Light) (fun x y => { x with Light := y }) := (Lens.iso _ _ _ _).comp ((Lens.snd _ _).comp ((Lens.snd _ _).comp ((Lens.snd _ _).comp (Lens.fst _ _))))
theorem GShip.l4 : Lens GShip.rep (Rep.slice jQ5.rep) 8 (fun x => x.Items) (fun x y => { x with Items := y }) := (Lens.iso _ _ _ _).comp ((Lens.snd _ _).comp ((Lens.snd _ _).comp ((Lens.snd _ _).comp ((Lens.snd _ _).comp (Lens.fst _ _)))))
structure jQr where
  Neg : Bool
  Limbs : (List Int)
def jQr.rep : Rep jQr := Rep.iso (Rep.prod Rep.bool (Rep.prod (Rep.slice jJu) Rep.unit)) (fun s => (s.Neg, (s.Limbs, ()))) (fun t => ⟨t.1, t.2.1⟩) (fun _ => rfl)
def jQr.ok (y : jQr) : Prop := (fun _ => True) y.Neg ∧ (gL (gI .u16)) y.Limbs ∧ True
theorem jQr.l0 : Lens jQr.rep Rep.bool 0 (fun x => x.Neg) (fun x y => { x with Neg := y }) := (Lens.iso _ _ _ _).comp (Lens.fst _ _)
theorem jQr.l1 : Lens jQr.rep (Rep.slice jJu) 1 (fun x => x.Limbs) (fun x y => { x with Limbs := y }) := (Lens.iso _ _ _ _).comp ((Lens.snd _ _).comp (Lens.fst _ _))
structure jQv where
  Num : jQr
  Den : jQr
def jQv.rep : Rep jQv := Rep.iso (Rep.prod jQr.rep (Rep.prod jQr.rep Rep.unit)) (fun s => (s.Num, (s.Den, ()))) (fun t => ⟨t.1, t.2.1⟩) (fun _ => rfl)
def jQv.ok (y : jQv) : Prop := jQr.ok y.Num ∧ jQr.ok y.Den ∧ True
theorem jQv.l0 : Lens jQv.rep jQr.rep 0 (fun x => x.Num) (fun x y => { x with Num := y }) := (Lens.iso _ _ _ _).comp (Lens.fst _ _)
theorem jQv.l1 : Lens jQv.rep jQr.rep 2 (fun x => x.Den) (fun x y => { x with Den := y }) := (Lens.iso _ _ _ _).comp ((Lens.snd _ _).comp (Lens.fst _ _))
structure GAttitude where
  Sink : jQv
  Slope : jQv
def GAttitude.rep : Rep GAttitude := Rep.iso (Rep.prod jQv.rep (Rep.prod jQv.rep Rep.unit)) (fun s => (s.Sink, (s.Slope, ()))) (fun t => ⟨t.1, t.2.1⟩) (fun _ => rfl)
def GAttitude.ok (y : GAttitude) : Prop := jQv.ok y.Sink ∧ jQv.ok y.Slope ∧ True
theorem GAttitude.l0 : Lens GAttitude.rep jQv.rep 0 (fun x => x.Sink) (fun x y => { x with Sink := y }) := (Lens.iso _ _ _ _).comp (Lens.fst _ _)
theorem GAttitude.l1 : Lens GAttitude.rep jQv.rep 4 (fun x => x.Slope) (fun x y => { x with Slope := y }) := (Lens.iso _ _ _ _).comp ((Lens.snd _ _).comp (Lens.fst _ _))
structure jJz where
  Volume : jQv
  Displacement : jQv
  X : jQv
  Z : jQv
  Area : jQv
  Float : jQv
  Cross : jQv
  Long : jQv
  Meta : jQv
def jJz.rep : Rep jJz := Rep.iso (Rep.prod jQv.rep (Rep.prod jQv.rep (Rep.prod jQv.rep (Rep.prod jQv.rep (Rep.prod jQv.rep (Rep.prod jQv.rep (Rep.prod jQv.rep (Rep.prod jQv.rep (Rep.prod jQv.rep Rep.unit))))))))) (fun s => (s.Volume, (s.Displacement, (s.X, (s.Z, (s.Area, (s.Float, (s.Cross, (s.Long, (s.Meta, ())))))))))) (fun t => ⟨t.1, t.2.1, t.2.2.1, t.2.2.2.1, t.2.2.2.2.1, t.2.2.2.2.2.1, t.2.2.2.2.2.2.1, t.2.2.2.2.2.2.2.1, t.2.2.2.2.2.2.2.2.1⟩) (fun _ => rfl)
def jJz.ok (y : jJz) : Prop := jQv.ok y.Volume ∧ jQv.ok y.Displacement ∧ jQv.ok y.X ∧ jQv.ok y.Z ∧ jQv.ok y.Area ∧ jQv.ok y.Float ∧ jQv.ok y.Cross ∧ jQv.ok y.Long ∧ jQv.ok y.Meta ∧ True
theorem jJz.l0 : Lens jJz.rep jQv.rep 0 (fun x => x.Volume) (fun x y => { x with Volume := y }) := (Lens.iso _ _ _ _).comp (Lens.fst _ _)
theorem jJz.l1 : Lens jJz.rep jQv.rep 4 (fun x => x.Displacement) (fun x y => { x with Displacement := y }) := (Lens.iso _ _ _ _).comp ((Lens.snd _ _).comp (Lens.fst _ _))
theorem jJz.l2 : Lens jJz.rep jQv.rep 8 (fun x => x.X) (fun x y => { x with X := y }) := (Lens.iso _ _ _ _).comp ((Lens.snd _ _).comp ((Lens.snd _ _).comp (Lens.fst _ _)))
theorem jJz.l3 : Lens jJz.rep jQv.rep 12 (fun x => x.Z) (fun x y => { x with Z := y }) := (Lens.iso _ _ _ _).comp ((Lens.snd _ _).comp ((Lens.snd _ _).comp ((Lens.snd _ _).comp (Lens.fst _ _))))
theorem jJz.l4 : Lens jJz.rep jQv.rep 16 (fun x => x.Area) (fun x y => { x with Area := y }) := (Lens.iso _ _ _ _).comp ((Lens.snd _ _).comp ((Lens.snd _ _).comp ((Lens.snd _ _).comp ((Lens.snd _ _).comp (Lens.fst _ _)))))
theorem jJz.l5 : Lens jJz.rep jQv.rep 20 (fun x => x.Float) (fun x y => { x with Float := y }) := (Lens.iso _ _ _ _).comp ((Lens.snd _ _).comp ((Lens.snd _ _).comp ((Lens.snd _ _).comp ((Lens.snd _ _).comp ((Lens.snd _ _).comp (Lens.fst _ _))))))
theorem jJz.l6 : Lens jJz.rep jQv.rep 24 (fun x => x.Cross) (fun x y => { x with Cross := y }) := (Lens.iso _ _ _ _).comp ((Lens.snd _ _).comp ((Lens.snd _ _).comp ((Lens.snd _ _).comp ((Lens.snd _ _).comp ((Lens.snd _ _).comp ((Lens.snd _ _).comp (Lens.fst _ _)))))))
theorem jJz.l7 : Lens jJz.rep jQv.rep 28 (fun x => x.Long) (fun x y => { x with Long := y }) := (Lens.iso _ _ _ _).comp ((Lens.snd _ _).comp ((Lens.snd _ _).comp ((Lens.snd _ _).comp ((Lens.snd _ _).comp ((Lens.snd _ _).comp ((Lens.snd _ _).comp ((Lens.snd _ _).comp (Lens.fst _ _))))))))
theorem jJz.l8 : Lens jJz.rep jQv.rep 32 (fun x => x.Meta) (fun x y => { x with Meta := y }) := (Lens.iso _ _ _ _).comp ((Lens.snd _ _).comp ((Lens.snd _ _).comp ((Lens.snd _ _).comp ((Lens.snd _ _).comp ((Lens.snd _ _).comp ((Lens.snd _ _).comp ((Lens.snd _ _).comp ((Lens.snd _ _).comp (Lens.fst _ _)))))))))
structure jJl where
  area : jQv
  moment : jQv
def jJl.rep : Rep jJl := Rep.iso (Rep.prod jQv.rep (Rep.prod jQv.rep Rep.unit)) (fun s => (s.area, (s.moment, ()))) (fun t => ⟨t.1, t.2.1⟩) (fun _ => rfl)
def jJl.ok (y : jJl) : Prop := jQv.ok y.area ∧ jQv.ok y.moment ∧ True
theorem jJl.l0 : Lens jJl.rep jQv.rep 0 (fun x => x.area) (fun x y => { x with area := y }) := (Lens.iso _ _ _ _).comp (Lens.fst _ _)
theorem jJl.l1 : Lens jJl.rep jQv.rep 4 (fun x => x.moment) (fun x y => { x with moment := y }) := (Lens.iso _ _ _ _).comp ((Lens.snd _ _).comp (Lens.fst _ _))
structure jK1 where
  Density : Int
  Upthrust : jQv
def jK1.rep : Rep jK1 := Rep.iso (Rep.prod r_i64 (Rep.prod jQv.rep Rep.unit)) (fun s => (s.Density, (s.Upthrust, ()))) (fun t => ⟨t.1, t.2.1⟩) (fun _ => rfl)
def jK1.ok (y : jK1) : Prop := (gI .i64) y.Density ∧ jQv.ok y.Upthrust ∧ True
theorem jK1.l0 : Lens jK1.rep r_i64 0 (fun x => x.Density) (fun x y => { x with Density := y }) := (Lens.iso _ _ _ _).comp (Lens.fst _ _)
theorem jK1.l1 : Lens jK1.rep jQv.rep 1 (fun x => x.Upthrust) (fun x y => { x with Upthrust := y }) := (Lens.iso _ _ _ _).comp ((Lens.snd _ _).comp (Lens.fst _ _))
structure jXs where
  KM : jQv
  KG : jQv
  GM : jQv
  Other : jQv
def jXs.rep : Rep jXs := Rep.iso (Rep.prod jQv.rep (Rep.prod jQv.rep (Rep.prod jQv.rep (Rep.prod jQv.rep Rep.unit)))) (fun s => (s.KM, (s.KG, (s.GM, (s.Other, ()))))) (fun t => ⟨t.1, t.2.1, t.2.2.1, t.2.2.2.1⟩) (fun _ => rfl)
def jXs.ok (y : jXs) : Prop := jQv.ok y.KM ∧ jQv.ok y.KG ∧ jQv.ok y.GM ∧ jQv.ok y.Other ∧ True
theorem jXs.l0 : Lens jXs.rep jQv.rep 0 (fun x => x.KM) (fun x y => { x with KM := y }) := (Lens.iso _ _ _ _).comp (Lens.fst _ _)
theorem jXs.l1 : Lens jXs.rep jQv.rep 4 (fun x => x.KG) (fun x y => { x with KG := y }) := (Lens.iso _ _ _ _).comp ((Lens.snd _ _).comp (Lens.fst _ _))
theorem jXs.l2 : Lens jXs.rep jQv.rep 8 (fun x => x.GM) (fun x y => { x with GM := y }) := (Lens.iso _ _ _ _).comp ((Lens.snd _ _).comp ((Lens.snd _ _).comp (Lens.fst _ _)))
theorem jXs.l3 : Lens jXs.rep jQv.rep 12 (fun x => x.Other) (fun x y => { x with Other := y }) := (Lens.iso _ _ _ _).comp ((Lens.snd _ _).comp ((Lens.snd _ _).comp ((Lens.snd _ _).comp (Lens.fst _ _))))
structure jQf where
  Mass : Int
  X : jQv
  Z : jQv
  Free : Int
def jQf.rep : Rep jQf := Rep.iso (Rep.prod r_i64 (Rep.prod jQv.rep (Rep.prod jQv.rep (Rep.prod r_i64 Rep.unit)))) (fun s => (s.Mass, (s.X, (s.Z, (s.Free, ()))))) (fun t => ⟨t.1, t.2.1, t.2.2.1, t.2.2.2.1⟩) (fun _ => rfl)
def jQf.ok (y : jQf) : Prop := (gI .i64) y.Mass ∧ jQv.ok y.X ∧ jQv.ok y.Z ∧ (gI .i64) y.Free ∧ True
theorem jQf.l0 : Lens jQf.rep r_i64 0 (fun x => x.Mass) (fun x y => { x with Mass := y }) := (Lens.iso _ _ _ _).comp (Lens.fst _ _)
theorem jQf.l1 : Lens jQf.rep jQv.rep 1 (fun x => x.X) (fun x y => { x with X := y }) := (Lens.iso _ _ _ _).comp ((Lens.snd _ _).comp (Lens.fst _ _))
theorem jQf.l2 : Lens jQf.rep jQv.rep 5 (fun x => x.Z) (fun x y => { x with Z := y }) := (Lens.iso _ _ _ _).comp ((Lens.snd _ _).comp ((Lens.snd _ _).comp (Lens.fst _ _)))
theorem jQf.l3 : Lens jQf.rep r_i64 9 (fun x => x.Free) (fun x y => { x with Free := y }) := (Lens.iso _ _ _ _).comp ((Lens.snd _ _).comp ((Lens.snd _ _).comp ((Lens.snd _ _).comp (Lens.fst _ _))))
structure jQt where
  Starts : (List Int)
  Slopes : (List jQv)
def jQt.rep : Rep jQt := Rep.iso (Rep.prod (Rep.slice r_i64) (Rep.prod (Rep.slice jQv.rep) Rep.unit)) (fun s => (s.Starts, (s.Slopes, ()))) (fun t => ⟨t.1, t.2.1⟩) (fun _ => rfl)
def jQt.ok (y : jQt) : Prop := (gL (gI .i64)) y.Starts ∧ (gL jQv.ok) y.Slopes ∧ True
theorem jQt.l0 : Lens jQt.rep (Rep.slice r_i64) 0 (fun x => x.Starts) (fun x y => { x with Starts := y }) := (Lens.iso _ _ _ _).comp (Lens.fst _ _)
theorem jQt.l1 : Lens jQt.rep (Rep.slice jQv.rep) 1 (fun x => x.Slopes) (fun x y => { x with Slopes := y }) := (Lens.iso _ _ _ _).comp ((Lens.snd _ _).comp (Lens.fst _ _))
structure jQ3 where
  X : Int
  C : jQv
  Curve : jQt
def jQ3.rep : Rep jQ3 := Rep.iso (Rep.prod r_i64 (Rep.prod jQv.rep (Rep.prod jQt.rep Rep.unit))) (fun s => (s.X, (s.C, (s.Curve, ())))) (fun t => ⟨t.1, t.2.1, t.2.2.1⟩) (fun _ => rfl)
def jQ3.ok (y : jQ3) : Prop := (gI .i64) y.X ∧ jQv.ok y.C ∧ jQt.ok y.Curve ∧ True
theorem jQ3.l0 : Lens jQ3.rep r_i64 0 (fun x => x.X) (fun x y => { x with X := y }) := (Lens.iso _ _ _ _).comp (Lens.fst _ _)
theorem jQ3.l1 : Lens jQ3.rep jQv.rep 1 (fun x => x.C) (fun x y => { x with C := y }) := (Lens.iso _ _ _ _).comp ((Lens.snd _ _).comp (Lens.fst _ _))
theorem jQ3.l2 : Lens jQ3.rep jQt.rep 5 (fun x => x.Curve) (fun x y => { x with Curve := y }) := (Lens.iso _ _ _ _).comp ((Lens.snd _ _).comp ((Lens.snd _ _).comp (Lens.fst _ _)))
abbrev zZ : jQr := (⟨false, []⟩ : jQr)
abbrev zQ : jQv := (⟨(⟨false, []⟩ : jQr), (⟨false, []⟩ : jQr)⟩ : jQv)
abbrev jJx := jJy.rep
abbrev jJ9 := jQ5.rep
abbrev jQj := GShip.rep
abbrev jQm := jQr.rep
abbrev jJk := jQv.rep
abbrev jQx := GAttitude.rep
abbrev jQy := jJz.rep
abbrev jJ4 := jJl.rep
abbrev jF2 := jK1.rep
abbrev jVm := jXs.rep
abbrev jX4 := jQf.rep
abbrev jQa := jQt.rep
abbrev jJd := jQ3.rep
end Go.KB
